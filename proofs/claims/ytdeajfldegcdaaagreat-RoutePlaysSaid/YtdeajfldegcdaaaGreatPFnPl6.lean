/- Walks of Go functions in the logic of values: what the law reaches. -/
import Derived.Test.YtdeajfldegcdaaaGreatPFnPl5

set_option linter.unusedVariables false
set_option linter.unusedSimpArgs false
set_option maxRecDepth 10000
set_option maxHeartbeats 16000000
namespace Go.Lo
open Go.Proofs
abbrev Mi (a:Int) (ls:List Lk) (r:Int):Nat→AV:=(upd (upd (upd (upd (upd (upd none_ 3 (.i a)) 4 (.pt 51 0)) 8 vN) 9 (.i 0)) 10 (.i (d2 ls r))) 11 (.sl 52 0 ls.length))
abbrev sr (c:List (List Int)) (cn:Int):Nat→aK:=(ah aG 51 (.live ⟨[.one,.one,.one,.one,.q YO c,.one,.one,.one,.i cn,.one],35,1⟩))
abbrev EF (ls:List Lk) (r a cn:Int):Lk:=(⟨(ls.getD ((d2 ls r).toNat) ao).route,(ls.getD ((d2 ls r).toNat) ao).cX,IntKind.i64.wrap (a+cn),(ls.getD ((d2 ls r).toNat) ao).pieces⟩:Lk)
abbrev yu (ls:List Lk) (r a cn:Int):List AV:=(enc aQ (ls.set ((d2 ls r).toNat) (EF ls r a cn)))
theorem Oo (c:List (List Int)) (ls:List Lk) (r a cn:Int) (hro:c.length≤65536) (hll:ls.length≤65536) (hlk:∀x,x∈ls→kj c x):Fn Tryz.prog 30 [.agg [.one,.one,.one,.one,.ro c.length (enc YO c),.one,.one,.one,.v (.int .i64 cn),.one],.ro ls.length (enc aQ ls),.v (.int .i64 r),.v (.int .i64 a)] (.bw [.ro ((fS c ls r (IntKind.i64.wrap (a+cn))).length) (enc aQ (fS c ls r (IntKind.i64.wrap (a+cn)))),.v (.int .i64 (gy c ls r))]):=by
 have hfr:=Qh ls r;refine cf (N:=45) Tryz.func30 rfl rfl (iY rfl) (by simp) (fun w0 X bJ=>?_);refine aj (oG (qW 51 ?_));refine mV ?_;refine mV ?_;refine ak (aB (aj (mV ?_)));refine bB ?_;refine mV ?_;refine dA 6 20 (.b ((decide (r<0))||(decide (r≥(c.length:Int))))) ?_ ?_
 ·refine (Bool.eq_false_or_eq_true (decide (r<0))).elim (fun hg1=>?_) (fun hg1=>?_)
  ·skip;have hf2:=of_decide_eq_true hg1;refine nG hg1 ?_;refine nG hg1 ?_;refine nG hg1 ?_;refine nG hg1 ?_;refine nG hg1 ?_;refine oG (qP (decide (r<0)) (.b true) hg1 ?_);exact ak (bS (bR 20 _ _ (by rw [hg1]<;>rfl) lO))
  have hf3:=of_decide_eq_false hg1;refine oY hg1 (qM (.i r) ?_);refine oY hg1 (qF (.pt 51 0) (.pt 51 4) ib eG ?_);refine oY hg1 (qL (.q YO c) fQ ?_);refine oY hg1 (qN e4 ?_);refine oY hg1 (qB (.bool (decide (r≥(c.length:Int)))) rfl ?_);refine oG (qP (decide (r<0)) (.b (decide (r≥(c.length:Int)))) hg1 ?_);exact ak (bS (bR 20 _ _ (by rw [hg1]<;>rfl) lO))
 refine ak (rT (upd (upd (upd (upd (upd (upd (upd none_ 1 (.q aQ ls)) 2 (.i r)) 3 (.i a)) 4 (.pt 51 0)) 8 vN) 9 (.i 0)) 20 (.b ((decide (r<0))||(decide (r≥(c.length:Int)))))) (sr c cn) ?_);refine cD (fun hc0=>?_) fun hc0=>?_
 ·skip;refine aj (mO ?_);refine mO ?_;refine mV ?_;refine ak (aV ?_);have eR:=UF (ls:=ls) hc0;have fq:=A6 (ls:=ls) (e:=IntKind.i64.wrap (a+cn)) (by decide) eR;exact bq (av:=.bw [.q aQ ls,.v (.int .i64 7)]) rfl rfl (by rw [eR,fq])
 obtain ⟨mz,mA⟩:=gd hc0;have g0:=of_decide_eq_false mz;have fB:=of_decide_eq_false mA;have hrr:=IE hc0;refine aR (aj (mO ?_));refine mV ?_;refine oG (qJ (Hj ls r oo) Kf ?_);refine mV ?_;refine rU (upd (upd (upd (upd (upd (upd none_ 1 (.q aQ ls)) 3 (.i a)) 4 (.pt 51 0)) 8 vN) 9 (.i 0)) 10 (.i (d2 ls r))) (sr c cn) ?_;refine aB (aj (mV ?_));refine bB ?_;refine ak (cD (fun hc1=>?_) fun hc1=>?_)
 ·skip;have gl:=of_decide_eq_true hc1;have hfl:d2 ls r<0:=of_decide_eq_true hc1;refine aj (mO ?_);refine mO ?_;refine mV ?_;refine rU (upd (upd (upd (upd (upd (upd none_ 1 (.q aQ ls)) 3 (.i a)) 4 (.pt 51 0)) 8 (.q aQ ls)) 9 (.i 8)) 10 (.i (d2 ls r))) (sr c cn) ?_;refine aV ?_;have eR:=Jr hrr hfl;have fq:=A6 (ls:=ls) (e:=IntKind.i64.wrap (a+cn)) (by decide) eR;exact bq (av:=.bw [.q aQ ls,.v (.int .i64 8)]) rfl rfl (by rw [eR,fq])
 have il:=of_decide_eq_false hc1;have hfl:¬d2 ls r<0:=of_decide_eq_false hc1;refine aR (aj (mO ?_));refine oG (wd 52 (F_ ls hll (fun x hx=>by have h9:=hlk x hx;have:=h9.ps;have:=h9.ln;omega)) rfl rfl rfl rfl rfl Cm (fun _=>lS) wh (iP rfl) rfl rfl ?_);refine mS ?_;refine rU (Mi a ls r) (ah (sr c cn) 52 (.live ⟨(enc aQ ls),61,4⟩)) ?_;refine aB (aj (mS ?_));refine mV ?_;refine oG (nA rfl rfl rfl fA gj rfl rfl om oo ?_);refine oG (qF (.pt 52 ((d2 ls r).toNat*4)) (.pt 52 ((d2 ls r).toNat*4+2)) pS gL ?_);refine oG (Qi (f:=aQ) (l:=ls) (k:=(d2 ls r).toNat) (s:=4) (off:=2) (av:=.i ((ls.getD ((d2 ls r).toNat) ao).ends)) ao rfl rfl rfl kS rfl rfl rfl (fun _=>rfl) oo rfl ?_);refine bB ?_;refine rU (upd (Mi a ls r) 35 (.b (((ls.getD ((d2 ls r).toNat) ao).ends)==(-1)))) (ah (sr c cn) 52 (.live ⟨(enc aQ ls),61,4⟩)) ?_;refine cD (fun hc2=>?_) fun hc2=>?_
 ·skip;have lz:=(beq_iff_eq).1 hc2;refine bm (mS ?_);refine mV ?_;refine mV ?_;refine fG (.pt 51 8) A0 gL ?_;refine oV kS ?_;refine bG ((.int .i64 (IntKind.i64.wrap (a+cn)))) ?_;refine oG (nA rfl rfl rfl fA gj rfl rfl om oo ?_);refine oG (qF (.pt 52 ((d2 ls r).toNat*4)) (.pt 52 ((d2 ls r).toNat*4+2)) pS gL ?_);refine oG (Oq (s:=4) (fo:=2) (f:=aQ) (l:=ls) (l':=ls.set ((d2 ls r).toNat) (EF ls r a cn)) ao (EF ls r a cn) rfl rfl rfl gL rfl rfl rfl rfl rfl rfl (fun _=>rfl) oo rfl (by decide) rfl rfl ?_);refine ak (rT (upd (upd (upd none_ 8 vN) 9 (.i 0)) 11 (.sl 52 0 ls.length)) (ah (ah (sr c cn) 52 (.live ⟨(enc aQ ls),61,4⟩)) 52 (.live ⟨(yu ls r a cn),61,4⟩)) ?_);refine aj (mS ?_);refine mS ?_;refine mV ?_;refine ak ?_;have eR:=BP hrr hfl;have fq:=AI (e:=IntKind.i64.wrap (a+cn)) eR;rw [Qj (by simpa using hc2)] at fq;refine cy _ (d8 rfl (fun _ h=>h) (dy 9 (.i 0) (cj (av:=.i 0)) (dy 8 (.ro ls.length (yu ls r a cn)) (fv (id:=52) (n:=ls.length) (o:=⟨(yu ls r a cn),61,4⟩) rfl (YW (fun _=>rfl) (by first|rfl|(simp;done)))) d9))) ?_;exact aV (bq (av:=.bw [.ro ls.length (yu ls r a cn),.v (.int .i64 0)]) rfl rfl (by rw [eR,fq,List.length_set]))
 have lM:=(beq_eq_false_iff_ne).1 hc2;refine aR (aj (mS ?_));refine mS ?_;refine mV ?_;refine ak ?_;have eR:=BP hrr hfl;have fq:=AI (e:=IntKind.i64.wrap (a+cn)) eR;rw [RO (by simpa using hc2),set_self] at fq;refine cy _ (d8 rfl (fun _ h=>h) (dy 9 (.i 0) (cj (av:=.i 0)) (dy 8 (.q aQ ls) (fv (id:=52) (n:=ls.length) (o:=⟨(enc aQ ls),61,4⟩) rfl (YW (fun _=>rfl) (by first|rfl|(simp;done)))) d9))) ?_;exact aV (bq (av:=.bw [.q aQ ls,.v (.int .i64 0)]) rfl rfl (by rw [eR,fq]))
theorem WL:bO Tryz.prog 66=true:=by kernel_rfl
theorem IH:dD Tryz.prog 61 1=some (3,1):=by kernel_rfl
noncomputable def NQ:Code:=match Tryz.f33.body with|some (.seq _ (.seq _ (.seq _ (.seq (.seq _ (.block _ (.loop (.seq _ (.seq (.block _ (.seq _ x)) _))))) _))))=>x|_=>.skip
abbrev Mj (x:Lk):List AV:=[.v (.int .i64 x.route),.v (.int .i64 x.cX),.v (.int .i64 x.ends),.sl 3 0 x.pieces.length]
abbrev EG (x:Lk):List AV:=[.i x.route,.i x.cX,.i x.ends,.sl 3 0 x.pieces.length]
abbrev yw (e d:List (List Int)):List AV:=[.one,.one,.q YO e,.one,.q YO d,.one,.one,.one,.one,.one]
abbrev EH (e d:List (List Int)):ay:=⟨[.one,.one,.q YO e,.one,.q YO d,.one,.one,.one,.one,.one],35,1⟩
abbrev EI (g:Int) (c ow:List Int):Nat→AV:=(upd (upd (upd (upd none_ 2 (.v (.int .i64 g))) 3 (.q aC c)) 4 (.q eI ow)) 5 (.pt 0 0))
abbrev Xz (x:Lk):ay:=⟨(EG x),61,1⟩
abbrev yx (e d:List (List Int)) (j:List Lk) (x:Lk):Nat→aK:=(ah (ah (ah aG 0 (.live ⟨(yw e d),35,1⟩)) 1 (.live ⟨(enc aQ j),61,4⟩)) 2 (.live (Xz x)))
abbrev aT (d e:List (List Int)) (g:Int) (c ow:List Int):Tu:=(⟨d,e,g,c,ow⟩:Tu)
abbrev yy (e d:List (List Int)) (j:List Lk) (x:Lk) (g:Int) (c ow:List Int) (k:Nat):Nat→aK:=(ah (yx e d j x) 3 (.live ⟨(enc aC ((bI (aT d e g c ow) x k).1)),5,1⟩))
abbrev Mk (e d:List (List Int)) (j:List Lk) (x:Lk) (g:Int) (c ow:List Int) (k:Nat):Nat→aK:=(ah (yx e d j x) 3 (.live ⟨(enc aC ((bI (aT d e g c ow) x k).1.set k (g9 (aT d e g c ow) (cE (aT d e g c ow) x k) ((bI (aT d e g c ow) x k).1.getD k 0) (bI (aT d e g c ow) x k).2))),5,1⟩))
abbrev Ml (d e:List (List Int)) (g:Int) (c ow:List Int) (x:Lk) (k:Nat):ay:=⟨(enc aC (((bI (aT d e g c ow) x k).1.set k (jd (aT d e g c ow) x (cE (aT d e g c ow) x k) (g9 (aT d e g c ow) (cE (aT d e g c ow) x k) ((bI (aT d e g c ow) x k).1.getD k 0) (bI (aT d e g c ow) x k).2))).set k (0:Int))),5,1⟩
abbrev yz (e d:List (List Int)) (j:List Lk) (x:Lk) (g:Int) (c ow:List Int) (k:Nat):Nat→aK:=(ah (yx e d j x) 3 (.live ⟨(enc aC ((bI (aT d e g c ow) x k).1.set k (jd (aT d e g c ow) x (cE (aT d e g c ow) x k) (g9 (aT d e g c ow) (cE (aT d e g c ow) x k) ((bI (aT d e g c ow) x k).1.getD k 0) (bI (aT d e g c ow) x k).2)))),5,1⟩))
abbrev uT (g:Int) (c ow:List Int) (j:List Lk) (m:Value) (n:Int) (d e:List (List Int)) (x:Lk) (k:Nat):Nat→AV:=(upd (upd (upd (upd (upd (upd (upd (upd (upd (upd none_ 2 (.i g)) 3 (.q aC c)) 4 (.q eI ow)) 5 (.pt 0 0)) 11 (.sl 1 0 j.length)) 12 (.v m)) 13 (.i n)) 14 (.pt 2 0)) 15 (.b ((bI (aT d e g c ow) x k).2))) 16 (.i (k:Int)))
abbrev qT (g:Int) (c ow:List Int) (j:List Lk) (m:Value) (n:Int) (d e:List (List Int)) (x:Lk) (k:Nat):Nat→AV:=(upd (uT g c ow j m n d e x k) 17 (.i (cE (aT d e g c ow) x k)))
theorem Ot (d e:List (List Int)) (g:Int) (c ow:List Int) (x:Lk) (j:List Lk) (m:Value) (n:Int) (hro:d.length≤65536) (hpa:e.length≤65536) (hpl:∀y,y∈e→y.length≤65536) (hst:c.length≤65536) (how:ow.length≤65536) (hx:kj d x) (hxs:∀s,s∈(d.getD x.route.toNat [])→0≤s∧s<(c.length:Int)) (hpo:∀s:Int,0≤s→s<(c.length:Int)→0≤dl e s∧dl e s<(ow.length:Int)) (hdn:j.length≤65536) (w0:World) (G:Nat→Prop) (C:Ctx) (p:Laid w0 C.own) (u:wF G):c6 Tryz.prog ⟨w0,G,C.own,129,4,C,p,u⟩ NQ ⟨(upd (upd (upd (upd (EI g c ow) 11 (.sl 1 0 j.length)) 12 (.v m)) 13 (.v (.int .i64 n))) 14 (.pt 2 0)),fU 0 [.live (EH e d),.live ⟨(enc aQ j),61,4⟩,.live ⟨(Mj x),61,1⟩,.live ⟨(enc aC x.pieces),5,1⟩] aG⟩ (m8 (fun s=>(mI (aT d e g c ow) x=true∧ck ⟨w0,G,C.own,129,4,C,p,u⟩ s ⟨(upd (upd (upd (EI g c ow) 11 (.sl 4 0 (j.length+1))) 12 (.v m)) 13 (.v (.int .i64 n))),(ah (ah (ah (ah (ah aG 0 (.live (EH e d))) 1 .dead) 2 .dead) 3 (.live ⟨(enc aC ((bI (aT d e g c ow) x x.pieces.length).1)),5,1⟩)) 4 (.live ⟨(enc aQ j++(Mj x)),61,4⟩))⟩)∨(mI (aT d e g c ow) x=false∧ck ⟨w0,G,C.own,129,4,C,p,u⟩ s ⟨(upd (upd (upd (EI g c ow) 11 (.sl 1 0 j.length)) 12 (.v m)) 13 (.v (.int .i64 n))),(ah (ah (ah (ah aG 0 (.live (EH e d))) 1 (.live ⟨(enc aQ j),61,4⟩)) 2 .dead) 3 (.live ⟨(enc aC ((bI (aT d e g c ow) x x.pieces.length).1)),5,1⟩))⟩)) (fun _ _=>False)):=by
 have j3:=hx.r;have hxp:=hx.ps;have hxl:=hx.ln;refine aj (mV ?_);refine ak (aB (aj (mV ?_)));refine ak (bf (cF (fun k=>⟨(uT g c ow j m n d e x k),(yy e d j x g c ow k)⟩) (fun k=>True) (x.pieces.length) ?_ trivial (fun k dq hinv=>?_)))
 ·skip;exact iL [(0,0),(1,1),(2,2),(3,3)] [((0,0),.live _),((1,1),.live _),((2,2),.live _),((3,3),.live _)] ⟨aP (o:=⟨(yw e d),35,1⟩) rfl rfl,aP (o:=⟨(enc aQ j),61,4⟩) rfl rfl,b8 rfl ca bF,aP (o:=⟨(enc aC x.pieces),5,1⟩) rfl rfl,trivial⟩
 have hkl:=rA (t:=(aT d e g c ow)) (x:=x) k;refine aB (aj (mV ?_));refine fG (.pt 2 3) ji d3 ?_;refine oG (qL (.sl 3 0 x.pieces.length) dX ?_);refine oG (d_ rfl rfl rfl rfl cq (fK rfl) ?_);refine bB ?_;refine rU (upd (uT g c ow j m n d e x k) 34 (.b (decide ((k:Int)<(x.pieces.length:Int))))) (yy e d j x g c ow k) ?_;refine cD (fun hc0=>?_) fun hc0=>?_
 ·skip;have hf1:=of_decide_eq_true hc0;have hs1:=hxs _ (c8 (l:=(d.getD x.route.toNat [])) (k:=k+1) 0 om);have hr1:((bI (aT d e g c ow) x k).1.set k (g9 (aT d e g c ow) (cE (aT d e g c ow) x k) ((bI (aT d e g c ow) x k).1.getD k 0) (bI (aT d e g c ow) x k).2)).length=x.pieces.length:=AJ;have hg1:((bI (aT d e g c ow) x k).1.set k (g9 (aT d e g c ow) (cE (aT d e g c ow) x k) ((bI (aT d e g c ow) x k).1.getD k 0) (bI (aT d e g c ow) x k).2)).getD k 0=(g9 (aT d e g c ow) (cE (aT d e g c ow) x k) ((bI (aT d e g c ow) x k).1.getD k 0) (bI (aT d e g c ow) x k).2):=AK om;have hr2:((bI (aT d e g c ow) x k).1.set k (jd (aT d e g c ow) x (cE (aT d e g c ow) x k) (g9 (aT d e g c ow) (cE (aT d e g c ow) x k) ((bI (aT d e g c ow) x k).1.getD k 0) (bI (aT d e g c ow) x k).2))).length=x.pieces.length:=AJ;have hg2:((bI (aT d e g c ow) x k).1.set k (jd (aT d e g c ow) x (cE (aT d e g c ow) x k) (g9 (aT d e g c ow) (cE (aT d e g c ow) x k) ((bI (aT d e g c ow) x k).1.getD k 0) (bI (aT d e g c ow) x k).2))).getD k 0=(jd (aT d e g c ow) x (cE (aT d e g c ow) x k) (g9 (aT d e g c ow) (cE (aT d e g c ow) x k) ((bI (aT d e g c ow) x k).1.getD k 0) (bI (aT d e g c ow) x k).2)):=AK om;have hr3:((bI (aT d e g c ow) x k).1.set k (kT (aT d e g c ow) x (cE (aT d e g c ow) x k) ((bI (aT d e g c ow) x k).1.getD k 0) (bI (aT d e g c ow) x k).2)).length=x.pieces.length:=AJ;have hg3:((bI (aT d e g c ow) x k).1.set k (kT (aT d e g c ow) x (cE (aT d e g c ow) x k) ((bI (aT d e g c ow) x k).1.getD k 0) (bI (aT d e g c ow) x k).2)).getD k 0=(kT (aT d e g c ow) x (cE (aT d e g c ow) x k) ((bI (aT d e g c ow) x k).1.getD k 0) (bI (aT d e g c ow) x k).2):=AK om;have hs2:0≤(cE (aT d e g c ow) x k)∧(cE (aT d e g c ow) x k)<(c.length:Int):=hs1;have hs3:=hpo _ hs2.1 hs2.2;refine aR (aB (bf (aj (fG (.pt 0 4) ib eG ?_))));refine oO fQ ?_;refine fG (.pt 2 0) pR bC ?_;refine oV Y0 ?_;refine oG (YZ [] rfl rfl rfl e4 i9 rfl rfl (fun _=>rfl) rfl om oo ?_);refine oO jE ?_;refine mV ?_;refine oG (qB (.int .i64 ((k+1:Nat):Int)) (addN om) ?_);refine oG (qX (0:Int) cG bC ?_);refine oV Y0 ?_;refine mV ?_;refine rU (upd (uT g c ow j m n d e x k) 17 (.i ((d.getD x.route.toNat []).getD (k+1) 0))) (yy e d j x g c ow k) ?_;refine aB (aj (fG (.pt 2 3) ji d3 ?_));refine oG (qL (.sl 3 0 x.pieces.length) dX ?_);refine mV ?_;refine oG (gv (k:=k) rfl rfl rfl cq cR rfl rfl oo ?_);refine oG (nD (f:=aC) (l:=(bI (aT d e g c ow) x k).1) 0 rfl rfl rfl dB rfl rfl rfl (fun _=>rfl) oo rfl ?_);refine bB ?_;refine mV ?_;refine dA 6 59 (.b (((((bI (aT d e g c ow) x k).1).getD k 0)==2)&&((c.getD ((d.getD x.route.toNat []).getD (k+1) 0).toNat 0)==0))) ?_ ?_
  ·refine (Bool.eq_false_or_eq_true ((((bI (aT d e g c ow) x k).1).getD k 0)==2)).elim (fun hg2=>?_) (fun hg2=>?_)
   ·skip;have hf3:=(beq_iff_eq).1 hg2;refine oY hg2 (qM (.q aC c) ?_);refine oY hg2 (qM (.i ((d.getD x.route.toNat []).getD (k+1) 0)) ?_);refine oY hg2 (YZ 0 rfl rfl rfl cq cR rfl rfl (fun _=>rfl) rfl om oo ?_);refine oY hg2 (qL (.v (.int .u8 (c.getD ((d.getD x.route.toNat []).getD (k+1) 0).toNat 0))) dB ?_);refine oY hg2 (qB (.bool ((c.getD ((d.getD x.route.toNat []).getD (k+1) 0).toNat 0)==0)) rfl ?_);refine oG (qP ((((bI (aT d e g c ow) x k).1).getD k 0)==2) (.b ((c.getD ((d.getD x.route.toNat []).getD (k+1) 0).toNat 0)==0)) hg2 ?_);exact ak (bS (bR 59 _ _ (by rw [hg2]<;>rfl) lO))
   have eb:=(beq_eq_false_iff_ne).1 hg2;refine nG hg2 ?_;refine nG hg2 ?_;refine nG hg2 ?_;refine nG hg2 ?_;refine nG hg2 ?_;refine oG (qP ((((bI (aT d e g c ow) x k).1).getD k 0)==2) (.b false) hg2 ?_);exact ak (bS (bR 59 _ _ (by rw [hg2]<;>rfl) lO))
  refine mV ?_;refine dA 3 63 (.b ((((((bI (aT d e g c ow) x k).1).getD k 0)==2)&&((c.getD ((d.getD x.route.toNat []).getD (k+1) 0).toNat 0)==0))&&(!((bI (aT d e g c ow) x k).2)))) ?_ ?_
  ·refine (Bool.eq_false_or_eq_true (((((bI (aT d e g c ow) x k).1).getD k 0)==2)&&((c.getD ((d.getD x.route.toNat []).getD (k+1) 0).toNat 0)==0))).elim (fun hg5=>?_) (fun hg5=>?_)
   ·skip;obtain ⟨tY,tZ⟩:=fE hg5;have gl:=(beq_iff_eq).1 tY;have il:=(beq_iff_eq).1 tZ;refine oY hg5 (qM (.b ((bI (aT d e g c ow) x k).2)) ?_);refine oY hg5 (er rfl rfl rfl rfl ?_);refine oG (qP (((((bI (aT d e g c ow) x k).1).getD k 0)==2)&&((c.getD ((d.getD x.route.toNat []).getD (k+1) 0).toNat 0)==0)) (.b (!((bI (aT d e g c ow) x k).2))) hg5 ?_);exact ak (bS (bR 63 _ _ (by rw [hg5]<;>rfl) lO))
   refine nG hg5 ?_;refine nG hg5 ?_;refine oG (qP (((((bI (aT d e g c ow) x k).1).getD k 0)==2)&&((c.getD ((d.getD x.route.toNat []).getD (k+1) 0).toNat 0)==0)) (.b false) hg5 ?_);exact ak (bS (bR 63 _ _ (by rw [hg5]<;>rfl) lO))
  refine ak (rT (upd (upd (uT g c ow j m n d e x k) 17 (.i ((d.getD x.route.toNat []).getD (k+1) 0))) 63 (.b ((((((bI (aT d e g c ow) x k).1).getD k 0)==2)&&((c.getD ((d.getD x.route.toNat []).getD (k+1) 0).toNat 0)==0))&&(!((bI (aT d e g c ow) x k).2))))) (yy e d j x g c ow k) ?_);refine jl ⟨(qT g c ow j m n d e x k),(Mk e d j x g c ow k)⟩ (fun s h=>h) ?_ ?_
  ·skip;refine cD (fun hc1=>?_) fun hc1=>?_
   ·skip;obtain ⟨ZO,my⟩:=fE hc1;obtain ⟨pZ,p5⟩:=fE ZO;have kL:=(beq_iff_eq).1 pZ;have kK:=(beq_iff_eq).1 p5;have lN:=gF my;refine bm (fG (.pt 2 3) ji d3 ?_);refine oG (qL (.sl 3 0 x.pieces.length) dX ?_);refine mV ?_;refine oG (gv (k:=k) rfl rfl rfl cq cR rfl rfl oo ?_);refine oG (jy (f:=aC) (l:=(bI (aT d e g c ow) x k).1) (l':=((bI (aT d e g c ow) x k).1).set k (0:Int)) (0:Int) rfl rfl rfl cR rfl rfl rfl rfl rfl (fun _=>rfl) oo rfl rfl ?_);refine ak ?_;show ck _ _ _;exact iL [(0,0),(1,1),(2,2),(3,3)] [((0,0),.live _),((1,1),.live _),((2,2),.live _),((3,3),.live _)] ⟨aP rfl rfl,aP rfl rfl,b8 rfl ca bF,aP (o:=⟨(enc aC (((bI (aT d e g c ow) x k).1).set k (0:Int))),5,1⟩) rfl (by exact congrArg (fun l_=>ay.mk (enc aC l_) 5 1) (by first|(rw [Js hc1])|(rw [Jt hc1,set_self]))),trivial⟩
   refine aR ?_;show ck _ _ _;exact iL [(0,0),(1,1),(2,2),(3,3)] [((0,0),.live _),((1,1),.live _),((2,2),.live _),((3,3),.live _)] ⟨aP rfl rfl,aP rfl rfl,b8 rfl ca bF,aP rfl (by exact congrArg (fun l_=>ay.mk (enc aC l_) 5 1) (by first|(rw [Js hc1])|(rw [Jt hc1,set_self]))),trivial⟩
  refine aB (aj (fG (.pt 2 3) ji d3 ?_));refine oG (qL (.sl 3 0 x.pieces.length) dX ?_);refine mV ?_;refine oG (gv (k:=k) rfl rfl rfl cq cR rfl rfl oo ?_);refine oG (nD (f:=aC) (l:=(bI (aT d e g c ow) x k).1.set k (g9 (aT d e g c ow) (cE (aT d e g c ow) x k) ((bI (aT d e g c ow) x k).1.getD k 0) (bI (aT d e g c ow) x k).2)) 0 rfl rfl rfl dB rfl rfl rfl (fun _=>rfl) oo rfl ?_);refine bB ?_;refine rU (upd (qT g c ow j m n d e x k) 73 (.b ((((bI (aT d e g c ow) x k).1.set k (g9 (aT d e g c ow) (cE (aT d e g c ow) x k) ((bI (aT d e g c ow) x k).1.getD k 0) (bI (aT d e g c ow) x k).2)).getD k 0)==1))) (Mk e d j x g c ow k) ?_;refine jl ⟨(qT g c ow j m n d e x k),(ah (yx e d j x) 3 (.live ⟨(enc aC ((bI (aT d e g c ow) x k).1.set k (kT (aT d e g c ow) x (cE (aT d e g c ow) x k) ((bI (aT d e g c ow) x k).1.getD k 0) (bI (aT d e g c ow) x k).2))),5,1⟩))⟩ (fun s h=>h) ?_ ?_
  ·skip;refine cD (fun hc2=>?_) fun hc2=>?_
   ·skip;have lP:=(beq_iff_eq).1 hc2;refine aB (aB ((Bool.eq_false_or_eq_true ((c.getD (cE (aT d e g c ow) x k).toNat 0)==1)).elim (fun hq0=>?_) (fun hq0=>?_)))
    ·skip;have oU:=(beq_iff_eq).1 hq0;refine aD 16 [(89,.b ((ow.getD (dl e (cE (aT d e g c ow) x k)).toNat 0)==x.cX)),(88,.b ((ow.getD (dl e (cE (aT d e g c ow) x k)).toNat 0)==x.cX)),(87,.i x.cX),(86,.pt 2 1),(85,.i (ow.getD (dl e (cE (aT d e g c ow) x k)).toNat 0)),(84,.rp (([.i (ow.getD (dl e (cE (aT d e g c ow) x k)).toNat 0)]:List AV)++((enc eI ow).drop (((dl e (cE (aT d e g c ow) x k)).toNat+1)*1)))),(83,.i (dl e (cE (aT d e g c ow) x k))),(82,.i (cE (aT d e g c ow) x k)),(81,.agg (yw e d)),(80,.q eI ow),(79,.b ((c.getD (cE (aT d e g c ow) x k).toNat 0)==1)),(78,.b ((c.getD (cE (aT d e g c ow) x k).toNat 0)==1)),(77,.v (.int .u8 (c.getD (cE (aT d e g c ow) x k).toNat 0))),(76,.rp (([.v (.int .u8 (c.getD (cE (aT d e g c ow) x k).toNat 0))]:List AV)++((enc aC c).drop (((cE (aT d e g c ow) x k).toNat+1)*1)))),(75,.i (cE (aT d e g c ow) x k)),(74,.q aC c)] mixed ?_ ?_
     ·iterate 16 (refine ⟨?_,?_⟩;rotate_left)
      trivial
      ·exact aM
      ·exact aM
      ·exact dW 76 fun st ap hE=>YZ 0 rfl rfl rfl cq cR (hE 74 rfl) (hE 75 rfl) (fun _=>rfl) rfl om oo (by rw [ap];rfl)
      ·exact (cN dB)
      ·exact sB (.bool ((c.getD (cE (aT d e g c ow) x k).toNat 0)==1)) rfl
      ·exact aM
      ·exact dM hq0 aM
      ·exact dM hq0 (ed (yw e d) du cC)
      ·exact dM hq0 aM
      ·exact dM hq0 (sC (Qe e (cE (aT d e g c ow) x k) oo oo) WL)
      ·exact dM hq0 (dW 84 fun st ap hE=>YZ 0 rfl rfl rfl cG bC (hE 80 rfl) (hE 83 rfl) (fun _=>rfl) rfl om oo (by rw [ap];rfl))
      ·exact dM hq0 (cN Y0)
      ·exact dM hq0 (sF (.pt 2 0) (.pt 2 1) IH bC)
      ·exact dM hq0 (sL Y0)
      ·exact dM hq0 (sB (.bool ((ow.getD (dl e (cE (aT d e g c ow) x k)).toNat 0)==x.cX)) rfl)
      exact dW 89 fun st ap hE=>fJ (b:=((c.getD (cE (aT d e g c ow) x k).toNat 0)==1)) (av:=.b ((ow.getD (dl e (cE (aT d e g c ow) x k)).toNat 0)==x.cX)) rfl rfl rfl (hE 79 rfl) (by rw [hq0];exact hE 88 rfl) (by rw [ap];rfl)
     refine ak (jl ⟨(qT g c ow j m n d e x k),(yz e d j x g c ow k)⟩ (fun s h=>h) ?_ ?_)
     ·skip;refine cD (fun hc3=>?_) fun hc3=>?_
      ·skip;have ZW:=(beq_iff_eq).1 hc3;refine bm (fG (.pt 2 3) ji d3 ?_);refine oG (qL (.sl 3 0 x.pieces.length) dX ?_);refine mV ?_;refine oG (gv (k:=k) rfl rfl rfl cq cR rfl rfl oo ?_);refine oG (jy (f:=aC) (l:=(bI (aT d e g c ow) x k).1.set k (g9 (aT d e g c ow) (cE (aT d e g c ow) x k) ((bI (aT d e g c ow) x k).1.getD k 0) (bI (aT d e g c ow) x k).2)) (l':=((bI (aT d e g c ow) x k).1.set k (g9 (aT d e g c ow) (cE (aT d e g c ow) x k) ((bI (aT d e g c ow) x k).1.getD k 0) (bI (aT d e g c ow) x k).2)).set k (2:Int)) (2:Int) rfl rfl rfl cR rfl rfl rfl rfl rfl (fun _=>rfl) oo rfl rfl ?_);refine ak ?_;show ck _ _ _;exact iL [(0,0),(1,1),(2,2),(3,3)] [((0,0),.live _),((1,1),.live _),((2,2),.live _),((3,3),.live _)] ⟨aP rfl rfl,aP rfl rfl,b8 rfl ca bF,aP (o:=⟨(enc aC (((bI (aT d e g c ow) x k).1.set k (g9 (aT d e g c ow) (cE (aT d e g c ow) x k) ((bI (aT d e g c ow) x k).1.getD k 0) (bI (aT d e g c ow) x k).2)).set k (2:Int))),5,1⟩) rfl (by exact congrArg (fun l_=>ay.mk (enc aC l_) 5 1) (by first|(rw [oI,A7 (by rw [←hg1];exact hc2) hq0 hc3])|(rw [A8 hq0])|(rw [A9 hc3]))),trivial⟩
      have mx:=(beq_eq_false_iff_ne).1 hc3;refine aR ?_;show ck _ _ _;exact iL [(0,0),(1,1),(2,2),(3,3)] [((0,0),.live _),((1,1),.live _),((2,2),.live _),((3,3),.live _)] ⟨aP rfl rfl,aP rfl rfl,b8 rfl ca bF,aP rfl (by exact congrArg (fun l_=>ay.mk (enc aC l_) 5 1) (by first|(rw [oI,A7 (by rw [←hg1];exact hc2) hq0 hc3])|(rw [A8 hq0])|(rw [A9 hc3]))),trivial⟩
     refine aj (mO ?_);refine mV ?_;refine oG (YZ 0 rfl rfl rfl cq cR rfl rfl (fun _=>rfl) rfl om oo ?_);refine oV dB ?_;refine bB ?_;refine mV ?_;refine dA 4 103 (.b (((c.getD (cE (aT d e g c ow) x k).toNat 0)==0)&&(x.ends != (-1)))) ?_ ?_
     ·refine (Bool.eq_false_or_eq_true ((c.getD (cE (aT d e g c ow) x k).toNat 0)==0)).elim (fun gg=>?_) (fun gg=>?_)
      ·skip;have oW:=(beq_iff_eq).1 gg;refine oY gg (qF (.pt 2 0) (.pt 2 2) pS gL ?_);refine oY gg (qL (.i x.ends) kS ?_);refine oY gg (qB (.bool (x.ends != (-1))) rfl ?_);refine oG (qP ((c.getD (cE (aT d e g c ow) x k).toNat 0)==0) (.b (x.ends != (-1))) gg ?_);exact ak (bS (bR 103 _ _ (by rw [gg]<;>rfl) lO))
      have rR:=(beq_eq_false_iff_ne).1 gg;refine nG gg ?_;refine nG gg ?_;refine nG gg ?_;refine oG (qP ((c.getD (cE (aT d e g c ow) x k).toNat 0)==0) (.b false) gg ?_);exact ak (bS (bR 103 _ _ (by rw [gg]<;>rfl) lO))
     refine mV ?_;refine dA 5 109 (.b ((((c.getD (cE (aT d e g c ow) x k).toNat 0)==0)&&(x.ends != (-1)))&&(decide (x.ends≤g)))) ?_ ?_
     ·refine (Bool.eq_false_or_eq_true (((c.getD (cE (aT d e g c ow) x k).toNat 0)==0)&&(x.ends != (-1)))).elim (fun e6=>?_) (fun e6=>?_)
      ·skip;obtain ⟨BN,BO⟩:=fE e6;have tS:=(beq_iff_eq).1 BN;have Ce:=(bne_iff_ne).1 BO;refine oY e6 (qF (.pt 2 0) (.pt 2 2) pS gL ?_);refine oY e6 (qL (.i x.ends) kS ?_);refine oY e6 (qM (.i g) ?_);refine oY e6 (qB (.bool (decide (x.ends≤g))) rfl ?_);refine oG (qP (((c.getD (cE (aT d e g c ow) x k).toNat 0)==0)&&(x.ends != (-1))) (.b (decide (x.ends≤g))) e6 ?_);exact ak (bS (bR 109 _ _ (by rw [e6]<;>rfl) lO))
      refine nG e6 ?_;refine nG e6 ?_;refine nG e6 ?_;refine nG e6 ?_;refine oG (qP (((c.getD (cE (aT d e g c ow) x k).toNat 0)==0)&&(x.ends != (-1))) (.b false) e6 ?_);exact ak (bS (bR 109 _ _ (by rw [e6]<;>rfl) lO))
     refine ak (rT (upd (qT g c ow j m n d e x k) 109 (.b ((((c.getD (cE (aT d e g c ow) x k).toNat 0)==0)&&(x.ends != (-1)))&&(decide (x.ends≤g))))) (yz e d j x g c ow k) ?_);refine cD (fun hc4=>?_) fun hc4=>?_
     ·skip;obtain ⟨UG,UH⟩:=fE hc4;obtain ⟨UI,UJ⟩:=fE UG;have VI:=(beq_iff_eq).1 UI;have Ym:=(bne_iff_ne).1 UJ;have Yn:=of_decide_eq_true UH;refine bm (fG (.pt 2 3) ji d3 ?_);refine oG (qL (.sl 3 0 x.pieces.length) dX ?_);refine mV ?_;refine oG (gv (k:=k) rfl rfl rfl cq cR rfl rfl oo ?_);refine oG (jy (f:=aC) (l:=(bI (aT d e g c ow) x k).1.set k (jd (aT d e g c ow) x (cE (aT d e g c ow) x k) (g9 (aT d e g c ow) (cE (aT d e g c ow) x k) ((bI (aT d e g c ow) x k).1.getD k 0) (bI (aT d e g c ow) x k).2))) (l':=((bI (aT d e g c ow) x k).1.set k (jd (aT d e g c ow) x (cE (aT d e g c ow) x k) (g9 (aT d e g c ow) (cE (aT d e g c ow) x k) ((bI (aT d e g c ow) x k).1.getD k 0) (bI (aT d e g c ow) x k).2))).set k (0:Int)) (0:Int) rfl rfl rfl cR rfl rfl rfl rfl rfl (fun _=>rfl) oo rfl rfl ?_);refine ak ?_;show ck _ _ _;exact iL [(0,0),(1,1),(2,2),(3,3)] [((0,0),.live _),((1,1),.live _),((2,2),.live _),((3,3),.live _)] ⟨aP rfl rfl,aP rfl rfl,b8 rfl ca bF,aP (o:=(Ml d e g c ow x k)) rfl (by exact congrArg (fun l_=>ay.mk (enc aC l_) 5 1) (by first|(rw [oI,kc,tF (by rw [←hg1];exact hc2) hc4])|(rw [kc,tG hc4])|(rw [kc,tH (by rw [←hg1];exact hc2)]))),trivial⟩
     refine aR ?_;show ck _ _ _;exact iL [(0,0),(1,1),(2,2),(3,3)] [((0,0),.live _),((1,1),.live _),((2,2),.live _),((3,3),.live _)] ⟨aP rfl rfl,aP rfl rfl,b8 rfl ca bF,aP rfl (by exact congrArg (fun l_=>ay.mk (enc aC l_) 5 1) (by first|(rw [oI,kc,tF (by rw [←hg1];exact hc2) hc4])|(rw [kc,tG hc4])|(rw [kc,tH (by rw [←hg1];exact hc2)]))),trivial⟩
    have Yo:=(beq_eq_false_iff_ne).1 hq0;refine aD 16 [(89,.b false),(88,.v undef),(87,.v undef),(86,.v undef),(85,.v undef),(84,.v undef),(83,.v undef),(82,.v undef),(81,.v undef),(80,.v undef),(79,.b ((c.getD (cE (aT d e g c ow) x k).toNat 0)==1)),(78,.b ((c.getD (cE (aT d e g c ow) x k).toNat 0)==1)),(77,.v (.int .u8 (c.getD (cE (aT d e g c ow) x k).toNat 0))),(76,.rp (([.v (.int .u8 (c.getD (cE (aT d e g c ow) x k).toNat 0))]:List AV)++((enc aC c).drop (((cE (aT d e g c ow) x k).toNat+1)*1)))),(75,.i (cE (aT d e g c ow) x k)),(74,.q aC c)] mixed ?_ ?_
    ·iterate 16 (refine ⟨?_,?_⟩;rotate_left)
     trivial
     ·exact aM
     ·exact aM
     ·exact dW 76 fun st ap hE=>YZ 0 rfl rfl rfl cq cR (hE 74 rfl) (hE 75 rfl) (fun _=>rfl) rfl om oo (by rw [ap];rfl)
     ·exact (cN dB)
     ·exact sB (.bool ((c.getD (cE (aT d e g c ow) x k).toNat 0)==1)) rfl
     ·exact aM
     ·exact ef hq0
     ·exact ef hq0
     ·exact ef hq0
     ·exact ef hq0
     ·exact ef hq0
     ·exact ef hq0
     ·exact ef hq0
     ·exact ef hq0
     ·exact ef hq0
     exact mH ((c.getD (cE (aT d e g c ow) x k).toNat 0)==1) (.b false) hq0
    refine ak (jl ⟨(qT g c ow j m n d e x k),(yz e d j x g c ow k)⟩ (fun s h=>h) ?_ ?_)
    ·skip;refine eh false rfl rfl (fun h=>by cases h) (fun _=>?_);refine aR ?_;show ck _ _ _;exact iL [(0,0),(1,1),(2,2),(3,3)] [((0,0),.live _),((1,1),.live _),((2,2),.live _),((3,3),.live _)] ⟨aP rfl rfl,aP rfl rfl,b8 rfl ca bF,aP rfl (by exact congrArg (fun l_=>ay.mk (enc aC l_) 5 1) (by first|(rw [oI,A7 (by rw [←hg1];exact hc2) hq0 hc3])|(rw [A8 hq0])|(rw [A9 hc3]))),trivial⟩
    refine aj (mO ?_);refine mV ?_;refine oG (YZ 0 rfl rfl rfl cq cR rfl rfl (fun _=>rfl) rfl om oo ?_);refine oV dB ?_;refine bB ?_;refine mV ?_;refine dA 4 103 (.b (((c.getD (cE (aT d e g c ow) x k).toNat 0)==0)&&(x.ends != (-1)))) ?_ ?_
    ·refine (Bool.eq_false_or_eq_true ((c.getD (cE (aT d e g c ow) x k).toNat 0)==0)).elim (fun lv=>?_) (fun lv=>?_)
     ·skip;have Yp:=(beq_iff_eq).1 lv;refine oY lv (qF (.pt 2 0) (.pt 2 2) pS gL ?_);refine oY lv (qL (.i x.ends) kS ?_);refine oY lv (qB (.bool (x.ends != (-1))) rfl ?_);refine oG (qP ((c.getD (cE (aT d e g c ow) x k).toNat 0)==0) (.b (x.ends != (-1))) lv ?_);exact ak (bS (bR 103 _ _ (by rw [lv]<;>rfl) lO))
     have Yq:=(beq_eq_false_iff_ne).1 lv;refine nG lv ?_;refine nG lv ?_;refine nG lv ?_;refine oG (qP ((c.getD (cE (aT d e g c ow) x k).toNat 0)==0) (.b false) lv ?_);exact ak (bS (bR 103 _ _ (by rw [lv]<;>rfl) lO))
    refine mV ?_;refine dA 5 109 (.b ((((c.getD (cE (aT d e g c ow) x k).toNat 0)==0)&&(x.ends != (-1)))&&(decide (x.ends≤g)))) ?_ ?_
    ·refine (Bool.eq_false_or_eq_true (((c.getD (cE (aT d e g c ow) x k).toNat 0)==0)&&(x.ends != (-1)))).elim (fun kP=>?_) (fun kP=>?_)
     ·skip;obtain ⟨UK,UL⟩:=fE kP;have Yr:=(beq_iff_eq).1 UK;have Ys:=(bne_iff_ne).1 UL;refine oY kP (qF (.pt 2 0) (.pt 2 2) pS gL ?_);refine oY kP (qL (.i x.ends) kS ?_);refine oY kP (qM (.i g) ?_);refine oY kP (qB (.bool (decide (x.ends≤g))) rfl ?_);refine oG (qP (((c.getD (cE (aT d e g c ow) x k).toNat 0)==0)&&(x.ends != (-1))) (.b (decide (x.ends≤g))) kP ?_);exact ak (bS (bR 109 _ _ (by rw [kP]<;>rfl) lO))
     refine nG kP ?_;refine nG kP ?_;refine nG kP ?_;refine nG kP ?_;refine oG (qP (((c.getD (cE (aT d e g c ow) x k).toNat 0)==0)&&(x.ends != (-1))) (.b false) kP ?_);exact ak (bS (bR 109 _ _ (by rw [kP]<;>rfl) lO))
    refine ak (rT (upd (qT g c ow j m n d e x k) 109 (.b ((((c.getD (cE (aT d e g c ow) x k).toNat 0)==0)&&(x.ends != (-1)))&&(decide (x.ends≤g))))) (yz e d j x g c ow k) ?_);refine cD (fun hc4=>?_) fun hc4=>?_
    ·skip;obtain ⟨UM,UN⟩:=fE hc4;obtain ⟨UO,UP⟩:=fE UM;have Yt:=(beq_iff_eq).1 UO;have Yu:=(bne_iff_ne).1 UP;have Yv:=of_decide_eq_true UN;refine bm (fG (.pt 2 3) ji d3 ?_);refine oG (qL (.sl 3 0 x.pieces.length) dX ?_);refine mV ?_;refine oG (gv (k:=k) rfl rfl rfl cq cR rfl rfl oo ?_);refine oG (jy (f:=aC) (l:=(bI (aT d e g c ow) x k).1.set k (jd (aT d e g c ow) x (cE (aT d e g c ow) x k) (g9 (aT d e g c ow) (cE (aT d e g c ow) x k) ((bI (aT d e g c ow) x k).1.getD k 0) (bI (aT d e g c ow) x k).2))) (l':=((bI (aT d e g c ow) x k).1.set k (jd (aT d e g c ow) x (cE (aT d e g c ow) x k) (g9 (aT d e g c ow) (cE (aT d e g c ow) x k) ((bI (aT d e g c ow) x k).1.getD k 0) (bI (aT d e g c ow) x k).2))).set k (0:Int)) (0:Int) rfl rfl rfl cR rfl rfl rfl rfl rfl (fun _=>rfl) oo rfl rfl ?_);refine ak ?_;show ck _ _ _;exact iL [(0,0),(1,1),(2,2),(3,3)] [((0,0),.live _),((1,1),.live _),((2,2),.live _),((3,3),.live _)] ⟨aP rfl rfl,aP rfl rfl,b8 rfl ca bF,aP (o:=(Ml d e g c ow x k)) rfl (by exact congrArg (fun l_=>ay.mk (enc aC l_) 5 1) (by first|(rw [oI,kc,tF (by rw [←hg1];exact hc2) hc4])|(rw [kc,tG hc4])|(rw [kc,tH (by rw [←hg1];exact hc2)]))),trivial⟩
    refine aR ?_;show ck _ _ _;exact iL [(0,0),(1,1),(2,2),(3,3)] [((0,0),.live _),((1,1),.live _),((2,2),.live _),((3,3),.live _)] ⟨aP rfl rfl,aP rfl rfl,b8 rfl ca bF,aP rfl (by exact congrArg (fun l_=>ay.mk (enc aC l_) 5 1) (by first|(rw [oI,kc,tF (by rw [←hg1];exact hc2) hc4])|(rw [kc,tG hc4])|(rw [kc,tH (by rw [←hg1];exact hc2)]))),trivial⟩
   have Yw:=(beq_eq_false_iff_ne).1 hc2;refine aR ?_;show ck _ _ _;exact iL [(0,0),(1,1),(2,2),(3,3)] [((0,0),.live _),((1,1),.live _),((2,2),.live _),((3,3),.live _)] ⟨aP rfl rfl,aP rfl rfl,b8 rfl ca bF,aP rfl (by exact congrArg (fun l_=>ay.mk (enc aC l_) 5 1) (by first|(rw [oI,kc,tF (by rw [←hg1];exact hc2) hc4])|(rw [kc,tG hc4])|(rw [kc,tH (by rw [←hg1];exact hc2)]))),trivial⟩
  refine bm (mV ?_);refine mV ?_;refine dA 7 122 (.b (((bI (aT d e g c ow) x k).2)||((((bI (aT d e g c ow) x k).1.set k (kT (aT d e g c ow) x (cE (aT d e g c ow) x k) ((bI (aT d e g c ow) x k).1.getD k 0) (bI (aT d e g c ow) x k).2)).getD k 0) != 0))) ?_ ?_
  ·refine (Bool.eq_false_or_eq_true ((bI (aT d e g c ow) x k).2)).elim (fun jH=>?_) (fun jH=>?_)
   ·skip;refine nG jH ?_;refine nG jH ?_;refine nG jH ?_;refine nG jH ?_;refine nG jH ?_;refine nG jH ?_;refine oG (qP ((bI (aT d e g c ow) x k).2) (.b true) jH ?_);exact ak (bS (bR 122 _ _ (by rw [jH]<;>rfl) lO))
   refine oY jH (qF (.pt 2 0) (.pt 2 3) ji d3 ?_);refine oY jH (qL (.sl 3 0 x.pieces.length) dX ?_);refine oY jH (qM (.i (k:Int)) ?_);refine oY jH (gv (k:=k) rfl rfl rfl cq cR rfl rfl oo ?_);refine oY jH (nD (f:=aC) (l:=(bI (aT d e g c ow) x k).1.set k (kT (aT d e g c ow) x (cE (aT d e g c ow) x k) ((bI (aT d e g c ow) x k).1.getD k 0) (bI (aT d e g c ow) x k).2)) 0 rfl rfl rfl dB rfl rfl rfl (fun _=>rfl) oo rfl ?_);refine oY jH (qB (.bool ((((bI (aT d e g c ow) x k).1.set k (kT (aT d e g c ow) x (cE (aT d e g c ow) x k) ((bI (aT d e g c ow) x k).1.getD k 0) (bI (aT d e g c ow) x k).2)).getD k 0) != 0)) rfl ?_);refine oG (qP ((bI (aT d e g c ow) x k).2) (.b ((((bI (aT d e g c ow) x k).1.set k (kT (aT d e g c ow) x (cE (aT d e g c ow) x k) ((bI (aT d e g c ow) x k).1.getD k 0) (bI (aT d e g c ow) x k).2)).getD k 0) != 0)) jH ?_);exact ak (bS (bR 122 _ _ (by rw [jH]<;>rfl) lO))
  refine mV ?_;refine ak (bm (mV ?_));refine oG (qB (.int .i64 ((k+1:Nat):Int)) (addN om) ?_);refine mV ?_;refine ak ?_;show _∧_;refine ⟨by omega,trivial,?_⟩;exact iL [(0,0),(1,1),(2,2),(3,3)] [((0,0),.live _),((1,1),.live _),((2,2),.live _),((3,3),.live _)] ⟨aP rfl rfl,aP rfl rfl,b8 rfl ca bF,aP rfl (by exact congrArg (fun l_=>ay.mk (enc aC l_) 5 1) (by rfl)),trivial⟩ (he:=(sS rfl (sS (by show AV.v (.bool ((bI (aT d e g c ow) x k).2||(((bI (aT d e g c ow) x k).1.set k (kT (aT d e g c ow) x (cE (aT d e g c ow) x k) ((bI (aT d e g c ow) x k).1.getD k 0) (bI (aT d e g c ow) x k).2)).getD k 0 != 0)))=_;rw [hg3];rfl) (sM rfl (sS rfl (sS rfl (sM rfl (sM rfl (sS rfl (sS rfl (sS rfl bQ)))))))))))
 have Yx:=of_decide_eq_false hc0;refine cu (aj (mV ?_));refine ak (cD (fun f7=>?_) fun f7=>?_)
 ·skip;refine bm (mS ?_);refine oG (ZI (EG x) rX gj ?_);refine oG (Y8 rfl rfl rfl fA w9 (by decide) (by decide) rfl rfl ?_);refine oG (py 51 rfl rfl rfl rfl fA w8 rfl (by decide) rfl rfl rfl rfl (YW (fun _=>rfl) rfl) rfl rfl om om rfl rfl ?_);refine mS ?_;refine ak ?_;have hke:k=x.pieces.length:=by omega
  show (_∧ck _ _ _)∨(_∧ck _ _ _);refine .inl ⟨(by unfold mI;rw [hke] at f7;exact f7),?_⟩;exact iL [(0,0),(1,1),(2,2),(3,3),(51,4)] [((0,0),.live _),((1,1),.dead),((2,2),.dead),((3,3),.live _),((51,4),.live _)] ⟨aP rfl rfl,trivial,trivial,aP rfl (by exact congrArg (fun l_=>ay.mk (enc aC l_) 5 1) (by rw [hke])),b8 (o:=⟨((enc aQ j)++(EG x)),61,4⟩) rfl (jr (pD kH KY)) (pz pO bF),trivial⟩
 refine aR ?_;have hke:k=x.pieces.length:=by omega
 show (_∧ck _ _ _)∨(_∧ck _ _ _);refine .inr ⟨(by unfold mI;rw [hke] at f7;exact f7),?_⟩;exact iL [(0,0),(1,1),(2,2),(3,3)] [((0,0),.live _),((1,1),.live _),((2,2),.dead),((3,3),.live _)] ⟨aP rfl rfl,aP rfl rfl,trivial,aP rfl (by exact congrArg (fun l_=>ay.mk (enc aC l_) 5 1) (by rw [hke])),trivial⟩
abbrev EJ (ls:List Lk) (k:Nat):List AV:=[.i ((ls.getD k ao).route),.i ((ls.getD k ao).cX),.i ((ls.getD k ao).ends),.q aC ((ls.getD k ao).pieces)]
theorem NY (ls:List Lk) (hll:ls.length≤65536) (hpl:∀x,x∈ls→x.pieces.length≤65536):jq Tryz.prog 54 [.q aQ ls] (.sl 0 0 ls.length) (⟨enc fV (ow 1 ls),61,4⟩::ls.map (gY 5)):=by
 refine cf (N:=25) Tryz.func54 rfl rfl (b_ rfl) (by simp) (fun w0 X bJ=>?_);refine aj (mV ?_);refine ak (aj (mV ?_));refine ak (aB (aj (mV ?_)));refine ak (bf (GJ (fun k=>⟨(upd (upd (upd (upd none_ 0 (.q aQ ls)) 2 vN) 3 (.sl 1 0 k)) 4 (.i (k:Int))),na 5 61 ls k⟩) (ls.length) ?_ (fun k dq=>?_)))
 ·refine (iz 3 1 61 4 rfl rfl).trans (rI ⟨lu rfl (lu rfl (lu rfl (lu rfl ln))),fun id=>.inl ?_⟩);show ah (nW (lw 5 ls 0)) 1 (.live ⟨enc fV (ow 8 (ls.take 0)),61,4⟩) id=ah (fun _=>.free) 1 (.live ⟨[],61,4⟩) id;by_cases h:id=1
  ·subst h;rfl
  rw [dJ _ _ h,dJ _ _ h,UQ]
 have htk:(ls.take k).length=k:=by rw [List.length_take];omega
 refine aB (aj (mV ?_));refine mO ?_;refine oG (qN fA ?_);refine bB ?_;refine ak (cD (fun hc0=>?_) fun hc0=>?_)
 ·have hf1:=of_decide_eq_true hc0;have hxl:=hpl _ (c8 (l:=ls) (k:=k) ao om);refine aR (aB (bf (aj (mO ?_))));refine mV ?_;refine oG (kD ao rfl rfl rfl fA gj rfl rfl (fun _=>rfl) rfl om ?_);refine oG (ZI (EJ ls k) rX gj ?_);refine oG (fW 2 rfl rfl rfl rfl Cn rfl ?_);refine oG (qS gj ?_);refine rU (upd (upd (upd (upd (upd none_ 0 (.q aQ ls)) 2 vN) 3 (.sl 1 0 k)) 4 (.i (k:Int))) 5 (.pt 2 0)) (ah (ah (na 5 61 ls k) 2 (.live ⟨[.i 0,.i 0,.i 0,vN],61,1⟩)) 2 (.live ⟨(EJ ls k),61,1⟩)) ?_;refine aj (fG (.pt 2 3) ji d3 ?_);refine oO dX ?_;refine oG (vn (k+8) rfl rfl rfl rfl cq Y3 rfl (by decide) rfl rfl (YW (fun _=>rfl) rfl) om om ?_ ?_)
  ·exact Pb (eL:=61) (A:=.dead) (B:=.dead)
  refine fG (.pt 2 3) ji d3 ?_;refine oG (qS d3 ?_);refine ak (bm (mS ?_));refine oG (ZI [.i ((ls.getD k ao).route),.i ((ls.getD k ao).cX),.i ((ls.getD k ao).ends),.sl (k+8) 0 (ls.getD k ao).pieces.length] rX gj ?_);refine oG (Y8 rfl rfl rfl fA w9 (by decide) (by decide) rfl rfl ?_);refine oG (py (ob:=⟨enc fV (ow 8 (ls.take k)),61,4⟩) 3 rfl rfl rfl rfl fA w8 rfl (by decide) rfl rfl rfl rfl (YW (fun _=>rfl) (by rw [A_,htk])) rfl rfl om om rfl rfl ?_);refine mS ?_;refine ak (bm (mV ?_));refine oG (qB (.int .i64 ((k+1:Nat):Int)) (addN om) ?_);refine mV ?_;refine ak ?_;show _∧_;refine ⟨by omega,?_⟩;have hs_:=iA ao (l:=ls) (k:=k) om;have hn:(ls.take (k+1)).length=k+1:=by rw [List.length_take];omega
  refine H0 (fun i=>cond (Nat.beq i 3) 1 i) (fun i=>cond (Nat.beq i 1) 3 i) (fun i=>i=3∨(8≤i∧i<8+(k+1))) rfl (fun i hi=>?_) (ZC rfl (mY (.sl _ _ _ (Or.inl rfl)) rfl (ZC rfl (ZC rfl vX)))) (fun i o' hl=>?_) (fun i hi hf=>?_)
  ·rcases hi with rfl|hi
   ·rfl
   obtain ⟨j,rfl⟩:∃j,i=j+8:=⟨i-8,by omega⟩
   rfl
  ·rcases Pd hl with ⟨rfl,rfl⟩|⟨j,rfl,hj,rfl⟩
   ·refine ⟨⟨enc fV (ow 8 (ls.take k))++[.i (ls.getD k ao).route,.i (ls.getD k ao).cX,.i (ls.getD k ao).ends,.sl (k+8) 0 (ls.getD k ao).pieces.length],61,4⟩,.inl rfl,rfl,rfl,?_,fun c hc=>?_⟩
    ·show ay.mk _ _ _=ay.mk _ _ _
     (try simp only [EJ]);rw [hs_,RP,oB,vg,wi _ 8 8 (fun i hi=>by rw [show 8+i=i+8 by omega];rfl),htk,show 8+k=k+8 by omega]
     rfl
    rcases List.mem_append.1 hc with hc|hc
    ·exact wG (fun i h1 h2=>.inr ⟨h1,by rw [htk] at h2;omega⟩) c hc
    simp only [List.mem_cons,List.not_mem_nil,or_false] at hc;rcases hc with rfl|rfl|rfl|rfl
    ·exact .v _
    ·exact .v _
    ·exact .v _
    exact .sl _ _ _ (.inr ⟨by omega,by omega⟩)
   refine ⟨_,.inr ⟨by show 8≤j+8;omega,by show j+8<_;omega⟩,rfl,(RQ (eL:=61) (A:=.dead) (B:=.dead) (B2:=.dead) (X:=.dead) j).trans (vC hj),vY.symm,wj⟩
  rcases hi with rfl|⟨h1,h2⟩
  ·intro h;cases h
  obtain ⟨j,rfl⟩:∃j,i=j+8:=⟨i-8,by omega⟩
  intro h;have h3:na 5 61 ls (k+1) (j+8)=.free:=h;rw [AL,vC om] at h3
  cases h3
 have hf2:=of_decide_eq_false hc0;refine cu (aj (mS ?_));refine mS ?_;refine ak (aV ?_);have he:ls.take k=ls:=List.take_of_length_le om;have hkn:k=ls.length:=by omega
 subst hkn
 have hnd:(1::(List.range ls.length).map (· +8)).Nodup:=by
  rw [List.nodup_cons];refine ⟨fun h=>?_,?_⟩
  ·obtain ⟨j,_,hj⟩:=List.mem_map.1 h;omega
  exact List.Pairwise.map (· +8) (fun a b h=>by intro h2;exact h om) List.nodup_range
 have hix:∀j,j<ls.length→ix (1::(List.range ls.length).map (· +8)) (8+j)=1+j:=fun j hj=>p6 hnd (by rw [show 1+j=j+1 by omega,List.getElem?_cons_succ,List.getElem?_map,List.getElem?_range hj];simp;omega);refine ⟨1::(List.range ls.length).map (· +8),.sl 0 0 ls.length,_,rfl,⟨rfl,rfl⟩,hnd,rfl,.sl _ _ _ (List.mem_cons_self ..),by simp,fun i id hi=>?_⟩
 cases i with
 |zero=>
  simp only [List.getElem?_cons_zero,Option.some.injEq] at hi;subst hi;refine ⟨⟨enc fV (ow 8 (ls.take ls.length)),61,4⟩,rfl,?_,?_⟩
  ·rw [List.getElem?_cons_zero];show some _=some (ay.mk _ _ _);rw [he,wi _ 8 1 hix]
  rw [he];exact wG (fun i h1 h2=>List.mem_cons_of_mem _ (List.mem_map.2 ⟨i-8,List.mem_range.2 om,by omega⟩))
 |succ j=>
  rw [List.getElem?_cons_succ,List.getElem?_map,Option.map_eq_some_iff] at hi;obtain ⟨j',hj,rfl⟩:=hi;obtain ⟨hjl,rfl⟩:=List.getElem?_eq_some_iff.1 hj;simp only [List.length_range] at hjl;simp only [List.getElem_range];refine ⟨gY 5 (ls.getD j ao),?_,?_,wj⟩
  ·exact AL.trans (vC hjl)
  rw [List.getElem?_cons_succ,List.getElem?_map,vY,List.getElem?_eq_getElem hjl];simp [hjl]

abbrev pk (w:Int) (m p:List Int):Nat→AV:=(upd (upd (upd none_ 2 (.i w)) 3 (.q aC m)) 4 (.q eI p))
abbrev yA (ls:List Lk) (i:Nat):List AV:=[.i (ls.getD i ao).route,.i (ls.getD i ao).cX,.i (ls.getD i ao).ends,.sl 3 0 (ls.getD i ao).pieces.length]
abbrev su (ls:List Lk) (i:Nat):List AV:=[.i (ls.getD i ao).route,.i (ls.getD i ao).cX,.i (ls.getD i ao).ends,.sl (i+8) 0 (ls.getD i ao).pieces.length]
abbrev dG (d g:List (List Int)) (w:Int) (m p:List Int):Tu:=(⟨d,g,w,m,p⟩:Tu)
abbrev j5 (g d:List (List Int)):ay:=⟨[.one,.one,.q YO g,.one,.q YO d,.one,.one,.one,.one,.one],35,1⟩
theorem Qk (d g:List (List Int)) (w:Int) (m p:List Int) (ls:List Lk) (hro:d.length≤65536) (hpa:g.length≤65536) (hpl:∀y,y∈g→y.length≤65536) (hst:m.length≤65536) (how:p.length≤65536) (hll:ls.length≤65536) (z:∀x,x∈ls→kj d x)
  (hrs:∀x,x∈d→∀s,s∈x→0≤s∧s<(m.length:Int)) (hpo:∀s:Int,0≤s→s<(m.length:Int)→0≤dl g s∧dl g s<(p.length:Int)):
  Fn Tryz.prog 33 [.agg [.one,.one,.q YO g,.one,.q YO d,.one,.one,.one,.one,.one],.q aQ ls,.i w,.q aC m,.q eI p] (.q aQ (dp (dG d g w m p) ls)):=by
 refine cf (N:=129) Tryz.func33 rfl rfl (b_ rfl) (by simp) (fun w0 X bJ=>?_);refine aj (oG (qW 4 ?_));refine mV ?_;refine ak (aj (mV ?_));refine ak (aj (mO ?_));refine oG (zX (news':=⟨enc fV (ow 8 ls),61,4⟩::ls.map (gY 5)) 7 false rfl rfl rfl rfl rfl Cm lS (fun _=>bb (cj (av:=.q aQ ls)) fe) (NY ls hll (fun x hx=>by have h9:=z x hx;have:=h9.ps;have:=h9.ln;omega)) (fun h=>by cases h) (fun i hi=>(dJ _ _ (by omega:7+i≠4)).trans rfl) rfl ?_ ?_)
 ·show ay.mk (AV.dY _ (enc fV (ow 1 ls))) 61 4::(ls.map (gY 5)).map _=_;rw [wi ls 1 8 (fun i hi=>by omega),List.map_map];exact congrArg _ (List.map_congr_left fun x _=>vY)
 refine mS ?_;refine ak (aB (aj (mV ?_)));refine ak (bf (GJ (fun i=>⟨(upd (upd (upd (upd (pk w m p) 5 (.pt 4 0)) 11 (.sl 1 0 (dp (dG d g w m p) (ls.take i)).length)) 12 (.sl 7 0 ls.length)) 13 (.i (i:Int))),iS (j1 5 ls i) (j5 g d) ⟨enc fV (ow 8 ls),61,4⟩ ⟨enc aQ (dp (dG d g w m p) (ls.take i)),61,4⟩⟩) (ls.length) ?_ (fun i jK=>?_)))
 ·refine (iz 11 1 61 4 rfl ?_).trans (rI ⟨lu rfl (lu rfl (lu rfl (lu rfl (lu rfl (lu rfl (lu rfl ln)))))),fun id=>.inl (Ql id)⟩);exact (vM _ _ _ _).trans (if_neg om)
 have hdn:=Qm (dG d g w m p) (ls.take i);have htk:(ls.take i).length=i:=by rw [List.length_take];omega
 refine aB (aj (mV ?_));refine mS ?_;refine oG (d_ rfl rfl rfl rfl fA (fK rfl) ?_);refine bB ?_;refine ak (cD (fun hc0=>?_) fun hc0=>?_)
 ·have hf1:=of_decide_eq_true hc0;have hil:i<ls.length:=by omega
  have hx:=z _ (c8 (l:=ls) (k:=i) ao hil);have j3:=hx.r;have rY:=Pe (t:=(dG d g w m p)) (ls:=ls) hil;have hkl:=rA (t:=(dG d g w m p)) (x:=(ls.getD i ao)) (ls.getD i ao).pieces.length;refine aR (aB (bf (aj (mS ?_))));refine mV ?_;refine oG (gv (k:=i) rfl rfl rfl fA gj rfl rfl hil ?_);refine oG (vI (k:=i) (f:=fV) (l:=ow 8 ls) (cells':=(su ls i)) Mm rfl rfl rfl rX gj rfl rfl rfl (fun _=>rfl) (by rw [A_];exact hil) (by rw [Te hil,show 8+i=i+8 by omega];rfl) ?_);refine oG (fW 2 rfl rfl rfl rfl Cn rfl ?_);refine oG (qS gj ?_);refine ak ?_;have hi3:ix [4,1,2,i+8] (i+8)=3:=p6 (i:=3) (by simp) rfl;refine RR [4,1,2,i+8] [(j5 g d),⟨enc aQ (dp (dG d g w m p) (ls.take i)),61,4⟩,⟨(yA ls i),61,1⟩,gY 5 (ls.getD i ao)] 12 (fun u=>(upd (upd (upd (upd (upd (pk w m p) 5 (.pt 0 0)) 11 (.sl 1 0 (dp (dG d g w m p) (ls.take i)).length)) 12 (.v u)) 13 (.i (i:Int))) 14 (.pt 2 0))) (fun u s=>(mI (dG d g w m p) (ls.getD i ao)=true∧s=⟨(upd (upd (upd (upd (pk w m p) 5 (.pt 0 0)) 11 (.sl 4 0 ((dp (dG d g w m p) (ls.take i)).length+1))) 12 (.v u)) 13 (.i (i:Int))),(ah (ah (ah (ah (ah aG 0 (.live (j5 g d))) 1 .dead) 2 .dead) 3 (.live ⟨enc aC (bI (dG d g w m p) (ls.getD i ao) (ls.getD i ao).pieces.length).1,5,1⟩)) 4 (.live ⟨enc aQ (dp (dG d g w m p) (ls.take i))++(yA ls i),61,4⟩))⟩)∨(mI (dG d g w m p) (ls.getD i ao)=false∧s=⟨(upd (upd (upd (upd (pk w m p) 5 (.pt 0 0)) 11 (.sl 1 0 (dp (dG d g w m p) (ls.take i)).length)) 12 (.v u)) 13 (.i (i:Int))),(ah (ah (ah (ah aG 0 (.live (j5 g d))) 1 (.live ⟨enc aQ (dp (dG d g w m p) (ls.take i)),61,4⟩)) 2 .dead) 3 (.live ⟨enc aC (bI (dG d g w m p) (ls.getD i ao) (ls.getD i ao).pieces.length).1,5,1⟩))⟩)) (bX rfl) (fun u=>rfl) (by simp) rfl (fun j id hj=>?_) (fun u=>II (.pt _ _ (by simp)) rfl (UR rfl (RS (mY (.sl _ _ _ (by simp)) rfl (mY (.pt _ _ (by simp)) rfl (ZC rfl (ZC rfl (ZC rfl vX)))))))) (fun u w0 G C hL j6=>?_) (fun u s hp=>?_)
  ·match j,hj with
   |0,hj=>cases hj;exact ⟨(j5 g d),rfl,congrArg some (jr kH).symm,pO⟩
   |1,hj=>cases hj;exact ⟨⟨enc aQ (dp (dG d g w m p) (ls.take i)),61,4⟩,rfl,congrArg some (jr kH).symm,pO⟩
   |2,hj=>
    cases hj
    refine ⟨⟨(su ls i),61,1⟩,rfl,?_,?_⟩
    ·show some _=some (ay.mk [.i _,.i _,.i _,.sl (ix [4,1,2,i+8] (i+8)) 0 _] 61 1);rw [hi3]
    intro c hc;simp only [List.mem_cons,List.not_mem_nil,or_false] at hc;rcases hc with rfl|rfl|rfl|rfl
    ·exact .v _
    ·exact .v _
    ·exact .v _
    exact .sl _ _ _ (by simp)
   |3,hj=>cases hj;exact ⟨gY 5 (ls.getD i ao),(YX (rows:=j1 5 ls i) (b4:=(j5 g d)) (b7:=⟨enc fV (ow 8 ls),61,4⟩) (out:=⟨enc aQ (dp (dG d g w m p) (ls.take i)),61,4⟩)).trans (RU hil),congrArg some vY.symm,wj⟩
   |j+4,hj=>simp at hj
  ·refine c6.mono (Ot d g w m p (ls.getD i ao) (dp (dG d g w m p) (ls.take i)) u i hro hpa hpl hst how hx (hrs _ (c8 (l:=d) (k:=(ls.getD i ao).route.toNat) [] om)) hpo om w0 G C hL j6) (fun e s h=>?_)
   cases e with
   |normal=>
    rcases h with ⟨h1,h2⟩|⟨h1,h2⟩
    ·exact ⟨_,h2,.inl ⟨h1,rfl⟩⟩
    exact ⟨_,h2,.inr ⟨h1,rfl⟩⟩
   |_=>exact h.elim
  rcases hp with ⟨htb,rfl⟩|⟨htb,rfl⟩
  ·rw [htb,if_pos rfl] at rY;refine ⟨rfl,[.live (j5 g d),.dead,.dead,.live ⟨enc aC (bI (dG d g w m p) (ls.getD i ao) (ls.getD i ao).pieces.length).1,5,1⟩,.live ⟨enc aQ (dp (dG d g w m p) (ls.take i))++(yA ls i),61,4⟩],[3],rfl,by simp,rfl,(fun id hid=>by rw [List.mem_singleton.1 hid];rfl),?_⟩;have Co:ay.map (nm [4,1,2,i+8,3]) ⟨enc aC (bI (dG d g w m p) (ls.getD i ao) (ls.getD i ao).pieces.length).1,5,1⟩=⟨enc aC (bI (dG d g w m p) (ls.getD i ao) (ls.getD i ao).pieces.length).1,5,1⟩:=jr kH;have hout:ay.map (nm [4,1,2,i+8,3]) ⟨enc aQ (dp (dG d g w m p) (ls.take i))++(yA ls i),61,4⟩=⟨enc aQ (dp (dG d g w m p) (ls.take i))++(su ls i),61,4⟩:=jr (by rw [vg,kH];rfl);refine cy ⟨(upd (upd (upd (upd (pk w m p) 5 (.pt 4 0)) 11 (.sl 1 0 (dp (dG d g w m p) (ls.take (i+1))).length)) 12 (.sl 7 0 ls.length)) 13 (.i (i:Int))),iS (j1 5 ls (i+1)) (j5 g d) ⟨enc fV (ow 8 ls),61,4⟩ ⟨enc aQ (dp (dG d g w m p) (ls.take (i+1))),61,4⟩⟩ ?_ ?_
   ·refine (IJ (e1:=(upd (upd (upd (upd (pk w m p) 5 (.pt 4 0)) 11 (.sl 1 0 ((dp (dG d g w m p) (ls.take i)).length+1))) 12 (.sl 7 0 ls.length)) 13 (.i (i:Int)))) (rows:=j2 5 ls i ⟨enc aC (bI (dG d g w m p) (ls.getD i ao) (ls.getD i ao).pieces.length).1,5,1⟩) (b4:=(j5 g d)) (b7:=⟨enc fV (ow 8 ls),61,4⟩) (out:=⟨enc aQ (dp (dG d g w m p) (ls.take i))++(su ls i),61,4⟩) 3 (.inr rfl) rfl (congrArg aK.live (jr kH)) rfl (congrArg aK.live hout) (fun j=>?_) (fun c hc=>cU.out c hc) (wG (fun i h1 h2=>h1)) ?_ ?_ ?_).trans (IK hil rfl (fun _ h=>h) ?_ ⟨rfl,rfl,?_,?_⟩)
    ·refine Eq.trans ?_ (H2 (b4:=(j5 g d)) (b7:=⟨enc fV (ow 8 ls),61,4⟩) (out:=⟨enc aQ (dp (dG d g w m p) (ls.take i)),61,4⟩) hil j);show ah (iS (j1 5 ls i) (j5 g d) ⟨enc fV (ow 8 ls),61,4⟩ ⟨enc aQ (dp (dG d g w m p) (ls.take i)),61,4⟩) (i+8) (.live (ay.map (nm [4,1,2,i+8,3]) ⟨enc aC (bI (dG d g w m p) (ls.getD i ao) (ls.getD i ao).pieces.length).1,5,1⟩)) (j+8)=_;rw [Co]
    ·intro c hc;rcases List.mem_append.1 hc with hc|hc
     ·exact (cU.out c hc).mono (fun _ h=>h.elim) id
     simp only [List.mem_cons,List.not_mem_nil,or_false] at hc;rcases hc with rfl|rfl|rfl|rfl
     ·exact .v _
     ·exact .v _
     ·exact .v _
     exact .sl _ _ _ (by show 8≤i+8;omega)
    ·exact fun j o h=>H3 (r:=⟨enc aC (bI (dG d g w m p) (ls.getD i ao) (ls.getD i ao).pieces.length).1,5,1⟩) cU.out h
    ·exact ZC rfl (mY (.sl _ _ _ (.inr (.inr (.inl rfl)))) rfl (mY (.sl _ _ _ (.inl rfl)) rfl (mY (.pt _ _ (.inr (.inl rfl))) rfl (ZC (jj (a:=.q eI p)) (ZC (jj (a:=.q aC m)) (ZC rfl vX))))))
    ·exact cH 13 _ rfl (cH 12 _ rfl (cH 11 _ (by show AV.sl 1 0 ((dp (dG d g w m p) (ls.take i)).length+1)=AV.sl 1 0 (dp (dG d g w m p) (ls.take (i+1))).length;rw [rY,List.length_append];rfl) (cH 5 _ rfl (cH 4 _ rfl (cH 3 _ rfl (cH 2 _ rfl jP))))))
    ·show (enc aQ (dp (dG d g w m p) (ls.take (i+1)))).length=(enc aQ (dp (dG d g w m p) (ls.take i))++((su ls i):List AV)).length;rw [rY,oB,List.length_append,List.length_append];rfl
    show ∀(j:Nat) (a b:AV),(enc aQ (dp (dG d g w m p) (ls.take i))++((su ls i):List AV))[j]? =some a→(enc aQ (dp (dG d g w m p) (ls.take (i+1))))[j]? =some b→_;rw [rY,oB];refine Qn (gS (.inl rfl) (gS (.inl rfl) (gS (.inl rfl) (gS (.inr ?_) Ag))));show dL _ _ (.ro (bI (dG d g w m p) (ls.getD i ao) (ls.getD i ao).pieces.length).1.length (enc aC (bI (dG d g w m p) (ls.getD i ao) (ls.getD i ao).pieces.length).1));rw [hkl];exact fv (o:=⟨enc aC (bI (dG d g w m p) (ls.getD i ao) (ls.getD i ao).pieces.length).1,5,1⟩) (ec _ _ _) (YW (fun _=>rfl) hkl.symm)
   refine bm (mV ?_);refine oG (qB (.int .i64 ((i+1:Nat):Int)) (addN om) ?_);refine mV ?_;refine ak ?_;show _∧_;exact ⟨hil,rI ⟨lu rfl (lu rfl (lu rfl (lu rfl (lu rfl (lu rfl (lu rfl ln)))))),fun id=>.inl rfl⟩⟩
  rw [htb,if_neg Bool.false_ne_true] at rY;refine ⟨rfl,[.live (j5 g d),.live ⟨enc aQ (dp (dG d g w m p) (ls.take i)),61,4⟩,.dead,.live ⟨enc aC (bI (dG d g w m p) (ls.getD i ao) (ls.getD i ao).pieces.length).1,5,1⟩],[],rfl,by simp,rfl,(fun id hid=>by cases hid),?_⟩;have Co:ay.map (nm [4,1,2,i+8]) ⟨enc aC (bI (dG d g w m p) (ls.getD i ao) (ls.getD i ao).pieces.length).1,5,1⟩=⟨enc aC (bI (dG d g w m p) (ls.getD i ao) (ls.getD i ao).pieces.length).1,5,1⟩:=jr kH;refine cy ⟨(upd (upd (upd (upd (pk w m p) 5 (.pt 4 0)) 11 (.sl 1 0 (dp (dG d g w m p) (ls.take (i+1))).length)) 12 (.sl 7 0 ls.length)) 13 (.i (i:Int))),iS (j1 5 ls (i+1)) (j5 g d) ⟨enc fV (ow 8 ls),61,4⟩ ⟨enc aQ (dp (dG d g w m p) (ls.take (i+1))),61,4⟩⟩ ?_ ?_
  ·rw [rY];refine (IJ (e1:=(upd (upd (upd (upd (pk w m p) 5 (.pt 4 0)) 11 (.sl 1 0 (dp (dG d g w m p) (ls.take i)).length)) 12 (.sl 7 0 ls.length)) 13 (.i (i:Int)))) (rows:=j2 5 ls i ⟨enc aC (bI (dG d g w m p) (ls.getD i ao) (ls.getD i ao).pieces.length).1,5,1⟩) (b4:=(j5 g d)) (b7:=⟨enc fV (ow 8 ls),61,4⟩) (out:=⟨enc aQ (dp (dG d g w m p) (ls.take i)),61,4⟩) 1 (.inl rfl) rfl (congrArg aK.live (jr kH)) rfl (congrArg aK.live (jr kH)) (fun j=>?_) (fun c hc=>cU.out c hc) (wG (fun i h1 h2=>h1)) (fun c hc=>(cU.out c hc).mono (fun _ h=>h.elim) id) ?_ ?_).trans (IK hil rfl (fun _ h=>h) ?_ ⟨rfl,rfl,rfl,fun j a b h1 h2=>.inl (by rw [h1] at h2;cases h2;rfl)⟩)
   ·refine Eq.trans ?_ (H2 (b4:=(j5 g d)) (b7:=⟨enc fV (ow 8 ls),61,4⟩) (out:=⟨enc aQ (dp (dG d g w m p) (ls.take i)),61,4⟩) hil j);show ah (iS (j1 5 ls i) (j5 g d) ⟨enc fV (ow 8 ls),61,4⟩ ⟨enc aQ (dp (dG d g w m p) (ls.take i)),61,4⟩) (i+8) (.live (ay.map (nm [4,1,2,i+8]) ⟨enc aC (bI (dG d g w m p) (ls.getD i ao) (ls.getD i ao).pieces.length).1,5,1⟩)) (j+8)=_;rw [Co]
   ·exact fun j o h=>H3 (r:=⟨enc aC (bI (dG d g w m p) (ls.getD i ao) (ls.getD i ao).pieces.length).1,5,1⟩) cU.out h
   ·exact ZC rfl (mY (.sl _ _ _ (.inr (.inr (.inl rfl)))) rfl (mY (.sl _ _ _ (.inl rfl)) rfl (mY (.pt _ _ (.inr (.inl rfl))) rfl (ZC (jj (a:=.q eI p)) (ZC (jj (a:=.q aC m)) (ZC rfl vX))))))
   exact cH 13 _ rfl (cH 12 _ rfl (cH 11 _ rfl (cH 5 _ rfl (cH 4 _ rfl (cH 3 _ rfl (cH 2 _ rfl jP))))))
  refine bm (mV ?_);refine oG (qB (.int .i64 ((i+1:Nat):Int)) (addN om) ?_);refine mV ?_;refine ak ?_;show _∧_;exact ⟨hil,rI ⟨lu rfl (lu rfl (lu rfl (lu rfl (lu rfl (lu rfl (lu rfl ln)))))),fun id=>.inl rfl⟩⟩
 have hf2:=of_decide_eq_false hc0;have he:ls.take i=ls:=List.take_of_length_le om;refine cu (aj (mS ?_));refine mS ?_;refine ak (cy _ (d8 rfl (fun _ h=>h) (dy 10 (.q aQ (dp (dG d g w m p) (ls.take i))) (fv (id:=1) (n:=(dp (dG d g w m p) (ls.take i)).length) (o:=⟨(enc aQ (dp (dG d g w m p) (ls.take i))),61,4⟩) rfl (YW (fun _=>rfl) rfl)) d9)) ?_);exact aV (bq (av:=.q aQ (dp (dG d g w m p) (ls.take i))) rfl rfl (by rw [he]))

theorem wk:dD Tryz.prog 43 3=some (40,3):=by kernel_rfl
theorem Ba:dD Tryz.prog 43 4=some (40,4):=by kernel_rfl
theorem wm:dD Tryz.prog 43 5=some (41,5):=by kernel_rfl
theorem Bb:dD Tryz.prog 43 6=some (40,6):=by kernel_rfl
theorem gA:(Tryz.prog.info? 43).map (·.size)=some 8:=by kernel_rfl
theorem lU:Tryz.prog.underlying 26=some (.slice 43):=by kernel_rfl
abbrev Mn:Nat→AV:=(upd (upd (upd none_ 2 (.pt 2 0)) 3 (.pt 3 0)) 4 vN)
abbrev Mp (a:List ax):ay:=⟨[.one,.q aI a,.one,.one,.one,.one,.one,.one,.one,.one],35,1⟩
abbrev Mq (x:Act):ay:=⟨[.v (.int .u8 x.dw),.v (.int .u8 x.n),.v (.int .u8 x.tr),.q aC x.bE,.q aC x.ow,.q eB x.rt,.q aC x.sp,.v (.int .u8 x.tk)],43,1⟩
abbrev yB (x:Act) (k:Nat):Nat→AV:=(upd (upd Mn 5 (.sl 1 0 ((cd x k).length))) 6 (.i (k:Int)))
abbrev uU (x:Act) (k:Nat) (a:List ax):Nat→aK:=(ah (ah (ah aG 1 (.live ⟨(enc aC (cd x k)),5,1⟩)) 2 (.live (Mp a))) 3 (.live (Mq x)))
theorem rf (a:List ax) (x:Act) (hs:a.length≤65536) (hx:mo x):Fn Tryz.prog 15 [.agg [.one,.q aI a,.one,.one,.one,.one,.one,.one,.one,.one],.agg [.v (.int .u8 x.dw),.v (.int .u8 x.n),.v (.int .u8 x.tr),.q aC x.bE,.q aC x.ow,.q eB x.rt,.q aC x.sp,.v (.int .u8 x.tk)]] (.q aC (cd x a.length)):=by
 have hx1:=hx.dw;have hx2:=hx.n;have hx3:=hx.tr;have hx4:=hx.tk;have hx5:=hx.l1;have hx6:=hx.l2;have hx7:=hx.l3;have pm:=hx.l4;refine cf (N:=39) Tryz.func15 rfl rfl (b_ rfl) (by simp) (fun w0 X bJ=>?_);refine aj (oG (qW 51 ?_));refine oG (qW 52 ?_);refine mV ?_;refine ak (aj (mV ?_));refine rU (upd (upd (upd (upd none_ 2 (.pt 51 0)) 3 (.pt 52 0)) 4 vN) 5 vN) (ah (ah aG 51 (.live (Mp a))) 52 (.live (Mq x))) ?_;refine aB (aj (mV ?_));refine ak (bf (cF (fun k=>⟨(yB x k),(uU x k a)⟩) (fun k=>True) (a.length) ?_ trivial (fun k dq hinv=>?_)))
 ·skip;refine (iz 5 53 5 1 rfl rfl).trans ?_;exact iL [(53,1),(51,2),(52,3)] [((53,1),.live _),((51,2),.live _),((52,3),.live _)] ⟨aP (o:=⟨[],5,1⟩) rfl rfl,aP rfl rfl,aP rfl rfl,trivial⟩
 have hsl:=s7 (x:=x) (k:=k);refine aB (aj (mV ?_));refine fG (.pt 2 1) iM ZJ ?_;refine oO i7 ?_;refine oG (qN iR ?_);refine bB ?_;refine rU (upd (yB x k) 12 (.b (decide ((k:Int)<(a.length:Int))))) (uU x k a) ?_;refine cD (fun hc0=>?_) fun hc0=>?_
 ·skip;have hf1:=of_decide_eq_true hc0;refine aR (aB (bf (aj (mV ?_))));refine ak (aB (aj (mV ?_)));refine fG (.pt 3 3) wk d3 ?_;refine oO dX ?_;refine oG (qN cq ?_);refine bB ?_;refine mV ?_;refine dA 7 27 (.b ((decide ((k:Int)<(x.bE.length:Int)))&&(decide ((x.bE.getD k 0)≥128)))) ?_ ?_
  ·refine (Bool.eq_false_or_eq_true (decide ((k:Int)<(x.bE.length:Int)))).elim (fun hg2=>?_) (fun hg2=>?_)
   ·skip;have hf3:=of_decide_eq_true hg2;refine oY hg2 (qF (.pt 3 0) (.pt 3 3) wk d3 ?_);refine oY hg2 (qL (.q aC x.bE) dX ?_);refine oY hg2 (qM (.i (k:Int)) ?_);refine oY hg2 (qX (0:Int) cq cR ?_);refine oY hg2 (qL (.v (.int .u8 (x.bE.getD k 0))) dB ?_);refine oY hg2 (qB (.bool (decide ((x.bE.getD k 0)≥128))) rfl ?_);refine oG (qP (decide ((k:Int)<(x.bE.length:Int))) (.b (decide ((x.bE.getD k 0)≥128))) hg2 ?_);exact ak (bS (bR 27 _ _ (by rw [hg2]<;>rfl) lO))
   have eb:=of_decide_eq_false hg2;refine nG hg2 ?_;refine nG hg2 ?_;refine nG hg2 ?_;refine nG hg2 ?_;refine nG hg2 ?_;refine nG hg2 ?_;refine oG (qP (decide ((k:Int)<(x.bE.length:Int))) (.b false) hg2 ?_);exact ak (bS (bR 27 _ _ (by rw [hg2]<;>rfl) lO))
  refine ak (rT (upd (upd (yB x k) 7 (.v (.int .u8 0))) 27 (.b ((decide ((k:Int)<(x.bE.length:Int)))&&(decide ((x.bE.getD k 0)≥128))))) (uU x k a) ?_);refine jl ⟨(upd (yB x k) 7 (.v (.int .u8 (stA x k)))),(uU x k a)⟩ (fun s h=>h) ?_ ?_
  ·skip;refine cD (fun hc1=>?_) fun hc1=>?_
   ·skip;obtain ⟨iu,ij⟩:=fE hc1;have fB:=of_decide_eq_true iu;have gl:=of_decide_eq_true ij;have jL:k<x.bE.length∧x.bE.getD k 0≥128:=by simp only [Bool.and_eq_true,decide_eq_true_eq] at hc1;exact ⟨by omega,hc1.2⟩
    have hsb:=hx.bE _ (c8 (l:=x.bE) (k:=k) 0 jL.1);refine bm (fG (.pt 3 3) wk d3 ?_);refine oO dX ?_;refine mV ?_;refine oG (qX (0:Int) cq cR ?_);refine oV dB ?_;refine oG (ez (u:=(.int .u8 ((x.bE.getD k 0) % 4))) rfl rfl rfl rfl rfl (by show _≠_;decide) (f5 om) ?_);refine mV ?_;refine ak ?_;show ck _ _ _;exact iL [(1,1),(2,2),(3,3)] [((1,1),.live _),((2,2),.live _),((3,3),.live _)] ⟨aP rfl rfl,aP rfl rfl,aP rfl rfl,trivial⟩ (he:=(sS (by exact congrArg (fun n_:Int=>AV.v (.int .u8 n_)) (by first|exact Ju jL|exact Jv jL)) (sS rfl (sM rfl (sS rfl (sM rfl (sM rfl bQ)))))))
   have jL:¬(k<x.bE.length∧x.bE.getD k 0≥128):=fun h=>by rw [decide_eq_true (show (k:Int)<(x.bE.length:Int) by omega),decide_eq_true h.2] at hc1;cases hc1
   refine aR ?_;show ck _ _ _;exact iL [(1,1),(2,2),(3,3)] [((1,1),.live _),((2,2),.live _),((3,3),.live _)] ⟨aP rfl rfl,aP rfl rfl,aP rfl rfl,trivial⟩ (he:=(sS (by exact congrArg (fun n_:Int=>AV.v (.int .u8 n_)) (by first|exact Ju jL|exact Jv jL)) (sS rfl (sM rfl (sS rfl (sM rfl (sM rfl bQ)))))))
  refine bm (mS ?_);refine mV ?_;refine oG (Y8 rfl rfl rfl cq od (by decide) (by decide) rfl rfl ?_);refine oG (hS (f:=aC) (l:=cd x k) 54 (stA x k:Int) rfl rfl rfl rfl cq Y3 rfl (by decide) rfl rfl rfl rfl rfl rfl (fun _=>rfl) rfl rfl oo oo rfl ?_);refine mS ?_;refine ak (rT (upd (upd (upd Mn 5 (.sl 54 0 (((cd x k)++[(stA x k:Int)]).length))) 6 (.i (k:Int))) 7 (.v (.int .u8 (stA x k)))) (ah (ah (uU x k a) 1 .dead) 54 (.live ⟨(enc aC ((cd x k)++[(stA x k:Int)])),5,1⟩)) ?_);refine bm (mV ?_);refine oG (qB (.int .i64 ((k+1:Nat):Int)) (addN om) ?_);refine mV ?_;refine ak ?_;show _∧_;have hs_:=Qo (x:=x) (k:=k);refine ⟨by omega,trivial,?_⟩;exact iL [(54,1),(2,2),(3,3)] [((54,1),.live _),((2,2),.live _),((3,3),.live _)] ⟨aP rfl (by exact congrArg (fun l_=>ay.mk (enc aC l_) 5 1) hs_),aP rfl rfl,aP rfl rfl,trivial⟩ (he:=(sS rfl (sM (by exact congrArg (AV.sl 1 0) (congrArg List.length hs_.symm)) (sS rfl (sM rfl (sM rfl bQ))))))
 have il:=of_decide_eq_false hc0;refine cu (aj (mS ?_));refine mS ?_;refine ak (cy _ (d8 rfl (fun _ h=>h) (dy 4 (.q aC (cd x k)) (fv (id:=1) (n:=(cd x k).length) (o:=⟨(enc aC (cd x k)),5,1⟩) rfl (YW (fun _=>rfl) (by first|rfl|(simp;done)))) d9)) ?_);exact aV (bq (av:=.ro ((cd x k).length) (enc aC (cd x k))) rfl rfl (by rw [show k=a.length by omega]))
abbrev Mr (a:List (List Int)):ay:=⟨[.one,.one,.q YO a,.one,.one,.one,.one,.one,.one,.one],35,1⟩
abbrev Ms:Nat→AV:=(upd (upd (upd none_ 2 (.pt 2 0)) 3 (.pt 3 0)) 4 vN)
abbrev Mt (x:Act):ay:=⟨[.v (.int .u8 x.dw),.v (.int .u8 x.n),.v (.int .u8 x.tr),.q aC x.bE,.q aC x.ow,.q eB x.rt,.q aC x.sp,.v (.int .u8 x.tk)],43,1⟩
abbrev yC (x:Act) (k:Nat):Nat→AV:=(upd (upd Ms 5 (.sl 1 0 ((d7 x k).length))) 6 (.i (k:Int)))
abbrev uV (x:Act) (k:Nat) (a:List (List Int)):Nat→aK:=(ah (ah (ah aG 1 (.live ⟨(enc eI (d7 x k)),3,1⟩)) 2 (.live (Mr a))) 3 (.live (Mt x)))
theorem Ga (a:List (List Int)) (x:Act) (hp:a.length≤65536) (hx:mo x):Fn Tryz.prog 32 [.agg [.one,.one,.q YO a,.one,.one,.one,.one,.one,.one,.one],.agg [.v (.int .u8 x.dw),.v (.int .u8 x.n),.v (.int .u8 x.tr),.q aC x.bE,.q aC x.ow,.q eB x.rt,.q aC x.sp,.v (.int .u8 x.tk)]] (.q eI (d7 x a.length)):=by
 have hx1:=hx.dw;have hx2:=hx.n;have hx3:=hx.tr;have hx4:=hx.tk;have hx5:=hx.l1;have hx6:=hx.l2;have hx7:=hx.l3;have pm:=hx.l4;refine cf (N:=33) Tryz.func32 rfl rfl (b_ rfl) (by simp) (fun w0 X bJ=>?_);refine aj (oG (qW 51 ?_));refine oG (qW 52 ?_);refine mV ?_;refine ak (aj (mV ?_));refine rU (upd (upd (upd (upd none_ 2 (.pt 51 0)) 3 (.pt 52 0)) 4 vN) 5 vN) (ah (ah aG 51 (.live (Mr a))) 52 (.live (Mt x))) ?_;refine aB (aj (mV ?_));refine ak (bf (cF (fun k=>⟨(yC x k),(uV x k a)⟩) (fun k=>True) (a.length) ?_ trivial (fun k dq hinv=>?_)))
 ·skip;refine (iz 5 53 3 1 rfl rfl).trans ?_;exact iL [(53,1),(51,2),(52,3)] [((53,1),.live _),((51,2),.live _),((52,3),.live _)] ⟨aP (o:=⟨[],3,1⟩) rfl rfl,aP rfl rfl,aP rfl rfl,trivial⟩
 have hsl:=s8 (x:=x) (k:=k);refine aB (aj (mV ?_));refine fG (.pt 2 2) lI eG ?_;refine oO fQ ?_;refine oG (qN e4 ?_);refine bB ?_;refine rU (upd (yC x k) 12 (.b (decide ((k:Int)<(a.length:Int))))) (uV x k a) ?_;refine cD (fun hc0=>?_) fun hc0=>?_
 ·skip;have hf1:=of_decide_eq_true hc0;refine aR (aB (bf (aj (mV ?_))));refine ak (aB (aj (mV ?_)));refine fG (.pt 3 4) Ba d3 ?_;refine oO dX ?_;refine oG (qN cq ?_);refine bB ?_;refine rU (upd (upd (yC x k) 7 (.i (-2))) 19 (.b (decide ((k:Int)<(x.ow.length:Int))))) (uV x k a) ?_;refine jl ⟨(upd (yC x k) 7 (.i (mJ x k))),(uV x k a)⟩ (fun s h=>h) ?_ ?_
  ·skip;refine cD (fun hc1=>?_) fun hc1=>?_
   ·skip;have hf2:=of_decide_eq_true hc1;have jL:k<x.ow.length:=by omega
    have hsb:=hx.ow _ (c8 (l:=x.ow) (k:=k) 0 jL);refine bm (fG (.pt 3 4) Ba d3 ?_);refine oO dX ?_;refine mV ?_;refine oG (qX (0:Int) cq cR ?_);refine oV dB ?_;refine oG (ez (u:=(.int .u8 ((x.ow.getD k 0) % 5))) rfl rfl rfl rfl rfl (by show _≠_;decide) (f5 om) ?_);refine oG (gR rfl rfl rfl iU gm rfl (IntWalk.i64_in _ om) ?_);refine oG (qB (.int .i64 (((x.ow.getD k 0) % 5)-2)) (kM om) ?_);refine mV ?_;refine ak ?_;show ck _ _ _;exact iL [(1,1),(2,2),(3,3)] [((1,1),.live _),((2,2),.live _),((3,3),.live _)] ⟨aP rfl rfl,aP rfl rfl,aP rfl rfl,trivial⟩ (he:=(sS (by exact congrArg (fun n_:Int=>AV.v (.int .i64 n_)) (by first|exact Jw jL|exact Jx jL)) (sS rfl (sM rfl (sS rfl (sM rfl (sM rfl bQ)))))))
   have hf3:=of_decide_eq_false hc1;have jL:¬k<x.ow.length:=by omega
   refine aR ?_;show ck _ _ _;exact iL [(1,1),(2,2),(3,3)] [((1,1),.live _),((2,2),.live _),((3,3),.live _)] ⟨aP rfl rfl,aP rfl rfl,aP rfl rfl,trivial⟩ (he:=(sS (by exact congrArg (fun n_:Int=>AV.v (.int .i64 n_)) (by first|exact Jw jL|exact Jx jL)) (sS rfl (sM rfl (sS rfl (sM rfl (sM rfl bQ)))))))
  refine bm (mS ?_);refine mV ?_;refine oG (Y8 rfl rfl rfl cG mF (by decide) (by decide) rfl rfl ?_);refine oG (hS (f:=eI) (l:=d7 x k) 54 (mJ x k:Int) rfl rfl rfl rfl cG ud rfl (by decide) rfl rfl rfl rfl rfl rfl (fun _=>rfl) rfl rfl oo oo rfl ?_);refine mS ?_;refine ak (rT (upd (upd (upd Ms 5 (.sl 54 0 (((d7 x k)++[(mJ x k:Int)]).length))) 6 (.i (k:Int))) 7 (.i (mJ x k))) (ah (ah (uV x k a) 1 .dead) 54 (.live ⟨(enc eI ((d7 x k)++[(mJ x k:Int)])),3,1⟩)) ?_);refine bm (mV ?_);refine oG (qB (.int .i64 ((k+1:Nat):Int)) (addN om) ?_);refine mV ?_;refine ak ?_;show _∧_;have hs_:=Qp (x:=x) (k:=k);refine ⟨by omega,trivial,?_⟩;exact iL [(54,1),(2,2),(3,3)] [((54,1),.live _),((2,2),.live _),((3,3),.live _)] ⟨aP rfl (by exact congrArg (fun l_=>ay.mk (enc eI l_) 3 1) hs_),aP rfl rfl,aP rfl rfl,trivial⟩ (he:=(sS rfl (sM (by exact congrArg (AV.sl 1 0) (congrArg List.length hs_.symm)) (sS rfl (sM rfl (sM rfl bQ))))))
 have eb:=of_decide_eq_false hc0;refine cu (aj (mS ?_));refine mS ?_;refine ak (cy _ (d8 rfl (fun _ h=>h) (dy 4 (.q eI (d7 x k)) (fv (id:=1) (n:=(d7 x k).length) (o:=⟨(enc eI (d7 x k)),3,1⟩) rfl (YW (fun _=>rfl) (by first|rfl|(simp;done)))) d9)) ?_);exact aV (bq (av:=.ro ((d7 x k).length) (enc eI (d7 x k))) rfl rfl (by rw [show k=a.length by omega]))
abbrev Mu (a:List aH) (x:Act):Nat→aK:=(ah (ah aG 51 (.live ⟨[.one,.one,.one,.q aE a,.one,.one,.one,.one,.one,.one],35,1⟩)) 52 (.live ⟨[.v (.int .u8 x.dw),.v (.int .u8 x.n),.v (.int .u8 x.tr),.q aC x.bE,.q aC x.ow,.q eB x.rt,.q aC x.sp,.v (.int .u8 x.tk)],43,1⟩))
theorem vo (a:List aH) (x:Act) (hp:a.length≤65536) (hx:mo x):Fn Tryz.prog 27 [.agg [.one,.one,.one,.q aE a,.one,.one,.one,.one,.one,.one],.agg [.v (.int .u8 x.dw),.v (.int .u8 x.n),.v (.int .u8 x.tr),.q aC x.bE,.q aC x.ow,.q eB x.rt,.q aC x.sp,.v (.int .u8 x.tk)]] (.q eB (cr x a.length)):=by
 have hx1:=hx.dw;have hx2:=hx.n;have hx3:=hx.tr;have hx4:=hx.tk;have hx5:=hx.l1;have hx6:=hx.l2;have hx7:=hx.l3;have pm:=hx.l4;refine cf (N:=20) Tryz.func27 rfl rfl (b_ rfl) (by simp) (fun w0 X bJ=>?_);refine aj (oG (qW 51 ?_));refine oG (qW 52 ?_);refine mV ?_;refine ak (aB (aj (fG (.pt 52 5) wm m_ ?_)));refine oO qg ?_;refine oG (qN eF ?_);refine fG (.pt 51 3) gU gb ?_;refine oO iw ?_;refine oG (qN gI ?_);refine bB ?_;refine rU (upd (upd (upd (upd none_ 2 (.pt 51 0)) 3 (.pt 52 0)) 4 vN) 11 (.b (decide ((x.rt.length:Int)>(a.length:Int))))) (Mu a x) ?_;refine cD (fun hc0=>?_) fun hc0=>?_
 ·skip;have hf1:=of_decide_eq_true hc0;have jL:x.rt.length>a.length:=by omega
  refine aj (fG (.pt 52 5) wm m_ ?_);refine oO qg ?_;refine fG (.pt 51 3) gU gb ?_;refine oO iw ?_;refine oG (qN gI ?_);refine oG (lG (l:=0) (hgh:=a.length) (cells':=enc eB (x.rt.take a.length)) ((x.rt.take a.length)).length rfl rfl rfl eF ik rfl rfl ⟨_,rfl⟩ om oo (pN (f:=eB) (fun _=>rfl) _ 0 _) (by simp;omega) ?_);refine mO ?_;refine rU (upd (upd none_ 3 (.pt 52 0)) 4 (.q eB (x.rt.take a.length))) (Mu a x) ?_;exact aV (bq (av:=.ro (((x.rt.take a.length)).length) (enc eB (x.rt.take a.length))) rfl rfl (by rw [US jL]))
 have hf2:=of_decide_eq_false hc0;have jL:¬x.rt.length>a.length:=by omega
 refine aR (aj (fG (.pt 52 5) wm m_ ?_));refine oO qg ?_;refine mO ?_;exact ak (aV (bq (av:=.ro x.rt.length (enc eB x.rt)) rfl rfl (by rw [UT jL])))
abbrev uW (l:List Act) (k:Nat):List AV:=(enc eB ((l.getD k bj).rt))
abbrev sv (l:List Act) (k:Nat):List AV:=(enc aC ((l.getD k bj).sp))
abbrev EK (l:List Act) (k:Nat):Nat→AV:=(upd (upd (upd none_ 0 (.q fa l)) 2 (.b false)) 3 (.i (k:Int)))
abbrev yD (l:List Act) (k:Nat):AV:=(.rp (([.v (.int .u8 ((l.getD k bj).dw)),.v (.int .u8 ((l.getD k bj).n)),.v (.int .u8 ((l.getD k bj).tr)),.q aC ((l.getD k bj).bE),.q aC ((l.getD k bj).ow),.ro ((l.getD k bj).rt.length) (uW l k),.ro ((l.getD k bj).sp.length) (sv l k),.v (.int .u8 ((l.getD k bj).tk))]:List AV)++((enc fa l).drop ((k+1)*8))))
theorem Pf (l:List Act) (hl:l.length≤maxLen) (hxs:∀x,x∈l→mo x):Fn Tryz.prog 8 [.q fa l] (.v (.bool (np l))):=by
 have hmx:maxLen=9223372036854775807:=rfl;refine cf (N:=47) Tryz.func8 rfl rfl (b_ rfl) (by simp) (fun w0 X bJ=>?_);refine aj (mV ?_);refine ak (aB (aj (mV ?_)));refine ak (bf (cF (fun k=>⟨(EK l k),aG⟩) (fun k=>(l.take k).any rZ=false) (l.length) ?_ (by simp) (fun k dq hinv=>?_)))
 ·skip;exact iN
 refine aB (aj (mV ?_));refine mO ?_;refine oG (qN lU ?_);refine bB ?_;refine rU (upd (EK l k) 7 (.b (decide ((k:Int)<(l.length:Int))))) aG ?_;refine cD (fun hc0=>?_) fun hc0=>?_
 ·skip;have hf1:=of_decide_eq_true hc0;have hxk:=hxs _ (c8 (l:=l) (k:=k) bj om);have hx5:=hxk.l1;have hx6:=hxk.l2;have hx7:=hxk.l3;have pm:=hxk.l4;refine aR (aB (bf (aj (mO ?_))));refine mV ?_;refine oG (qX bj lU gA ?_);refine oG (qF (yD l k) (.rp (([.q aC ((l.getD k bj).bE),.q aC ((l.getD k bj).ow),.ro ((l.getD k bj).rt.length) (uW l k),.ro ((l.getD k bj).sp.length) (sv l k),.v (.int .u8 ((l.getD k bj).tk))]:List AV)++((enc fa l).drop ((k+1)*8)))) wk d3 ?_);refine oO dX ?_;refine oG (qN cq ?_);refine bB ?_;refine mV ?_;refine dA 8 25 (.b ((decide (((l.getD k bj).bE.length:Int)>20))||(decide (((l.getD k bj).ow.length:Int)>20)))) ?_ ?_
  ·refine (Bool.eq_false_or_eq_true (decide (((l.getD k bj).bE.length:Int)>20))).elim (fun hg2=>?_) (fun hg2=>?_)
   ·skip;have hf3:=of_decide_eq_true hg2;refine nG hg2 ?_;refine nG hg2 ?_;refine nG hg2 ?_;refine nG hg2 ?_;refine nG hg2 ?_;refine nG hg2 ?_;refine nG hg2 ?_;refine oG (qP (decide (((l.getD k bj).bE.length:Int)>20)) (.b true) hg2 ?_);exact ak (bS (bR 25 _ _ (by rw [hg2]<;>rfl) lO))
   have eb:=of_decide_eq_false hg2;refine oY hg2 (qM (.q fa l) ?_);refine oY hg2 (qM (.i (k:Int)) ?_);refine oY hg2 (qX bj lU gA ?_);refine oY hg2 (qF (yD l k) (.rp (([.q aC ((l.getD k bj).ow),.ro ((l.getD k bj).rt.length) (uW l k),.ro ((l.getD k bj).sp.length) (sv l k),.v (.int .u8 ((l.getD k bj).tk))]:List AV)++((enc fa l).drop ((k+1)*8)))) Ba d3 ?_);refine oY hg2 (qL (.q aC ((l.getD k bj).ow)) dX ?_);refine oY hg2 (qN cq ?_);refine oY hg2 (qB (.bool (decide (((l.getD k bj).ow.length:Int)>20))) rfl ?_);refine oG (qP (decide (((l.getD k bj).bE.length:Int)>20)) (.b (decide (((l.getD k bj).ow.length:Int)>20))) hg2 ?_);exact ak (bS (bR 25 _ _ (by rw [hg2]<;>rfl) lO))
  refine mV ?_;refine dA 8 34 (.b (((decide (((l.getD k bj).bE.length:Int)>20))||(decide (((l.getD k bj).ow.length:Int)>20)))||(decide (((l.getD k bj).rt.length:Int)>8)))) ?_ ?_
  ·refine (Bool.eq_false_or_eq_true ((decide (((l.getD k bj).bE.length:Int)>20))||(decide (((l.getD k bj).ow.length:Int)>20)))).elim (fun hg5=>?_) (fun hg5=>?_)
   ·skip;refine nG hg5 ?_;refine nG hg5 ?_;refine nG hg5 ?_;refine nG hg5 ?_;refine nG hg5 ?_;refine nG hg5 ?_;refine nG hg5 ?_;refine oG (qP ((decide (((l.getD k bj).bE.length:Int)>20))||(decide (((l.getD k bj).ow.length:Int)>20))) (.b true) hg5 ?_);exact ak (bS (bR 34 _ _ (by rw [hg5]<;>rfl) lO))
   obtain ⟨tY,tZ⟩:=gd hg5;have gl:=of_decide_eq_false tY;have il:=of_decide_eq_false tZ;refine oY hg5 (qM (.q fa l) ?_);refine oY hg5 (qM (.i (k:Int)) ?_);refine oY hg5 (qX bj lU gA ?_);refine oY hg5 (qF (yD l k) (.rp (([.ro ((l.getD k bj).rt.length) (uW l k),.ro ((l.getD k bj).sp.length) (sv l k),.v (.int .u8 ((l.getD k bj).tk))]:List AV)++((enc fa l).drop ((k+1)*8)))) wm m_ ?_);refine oY hg5 (qL (.ro ((l.getD k bj).rt.length) (uW l k)) qg ?_);refine oY hg5 (qN eF ?_);refine oY hg5 (qB (.bool (decide (((l.getD k bj).rt.length:Int)>8))) rfl ?_);refine oG (qP ((decide (((l.getD k bj).bE.length:Int)>20))||(decide (((l.getD k bj).ow.length:Int)>20))) (.b (decide (((l.getD k bj).rt.length:Int)>8))) hg5 ?_);exact ak (bS (bR 34 _ _ (by rw [hg5]<;>rfl) lO))
  refine mV ?_;refine dA 8 43 (.b ((((decide (((l.getD k bj).bE.length:Int)>20))||(decide (((l.getD k bj).ow.length:Int)>20)))||(decide (((l.getD k bj).rt.length:Int)>8)))||(decide (((l.getD k bj).sp.length:Int)>6)))) ?_ ?_
  ·refine (Bool.eq_false_or_eq_true (((decide (((l.getD k bj).bE.length:Int)>20))||(decide (((l.getD k bj).ow.length:Int)>20)))||(decide (((l.getD k bj).rt.length:Int)>8)))).elim (fun iV=>?_) (fun iV=>?_)
   ·skip;refine nG iV ?_;refine nG iV ?_;refine nG iV ?_;refine nG iV ?_;refine nG iV ?_;refine nG iV ?_;refine nG iV ?_;refine oG (qP (((decide (((l.getD k bj).bE.length:Int)>20))||(decide (((l.getD k bj).ow.length:Int)>20)))||(decide (((l.getD k bj).rt.length:Int)>8))) (.b true) iV ?_);exact ak (bS (bR 43 _ _ (by rw [iV]<;>rfl) lO))
   obtain ⟨pZ,p5⟩:=gd iV;obtain ⟨UU,UW⟩:=gd pZ;have kK:=of_decide_eq_false UU;have lN:=of_decide_eq_false UW;have lP:=of_decide_eq_false p5;refine oY iV (qM (.q fa l) ?_);refine oY iV (qM (.i (k:Int)) ?_);refine oY iV (qX bj lU gA ?_);refine oY iV (qF (yD l k) (.rp (([.ro ((l.getD k bj).sp.length) (sv l k),.v (.int .u8 ((l.getD k bj).tk))]:List AV)++((enc fa l).drop ((k+1)*8)))) Bb d3 ?_);refine oY iV (qL (.ro ((l.getD k bj).sp.length) (sv l k)) dX ?_);refine oY iV (qN cq ?_);refine oY iV (qB (.bool (decide (((l.getD k bj).sp.length:Int)>6))) rfl ?_);refine oG (qP (((decide (((l.getD k bj).bE.length:Int)>20))||(decide (((l.getD k bj).ow.length:Int)>20)))||(decide (((l.getD k bj).rt.length:Int)>8))) (.b (decide (((l.getD k bj).sp.length:Int)>6))) iV ?_);exact ak (bS (bR 43 _ _ (by rw [iV]<;>rfl) lO))
  refine ak (rT (upd (EK l k) 43 (.b ((((decide (((l.getD k bj).bE.length:Int)>20))||(decide (((l.getD k bj).ow.length:Int)>20)))||(decide (((l.getD k bj).rt.length:Int)>8)))||(decide (((l.getD k bj).sp.length:Int)>6))))) aG ?_);refine cD (fun hc1=>?_) fun hc1=>?_
  ·skip;have hya:l.any rZ=true:=Qq bj om hc1;refine aj (mV ?_);exact ak (aV (bq (av:=.v (.bool false)) rfl rfl (by unfold np;rw [hya];rfl)))
  obtain ⟨Bu,Bv⟩:=gd hc1;obtain ⟨tv,tw⟩:=gd Bu;obtain ⟨tx,tz⟩:=gd tv;have mx:=of_decide_eq_false tx;have nT:=of_decide_eq_false tz;have oW:=of_decide_eq_false tw;have rR:=of_decide_eq_false Bv;refine aR (bm (mV ?_));refine oG (qB (.int .i64 ((k+1:Nat):Int)) (addN om) ?_);refine mV ?_;refine ak ?_;show _∧_;refine ⟨by omega,(gT bj om hinv hc1),?_⟩;exact iN
 have tQ:=of_decide_eq_false hc0;have hna:=RV om hinv;refine cu (aj (mO ?_));refine oG (qN lU ?_);refine bB ?_;refine mV ?_;refine rU (upd none_ 2 (.b (decide ((l.length:Int)≤50)))) aG ?_;exact aV (bq (av:=.v (.bool (decide ((l.length:Int)≤50)))) rfl rfl (by unfold np;rw [hna];rfl))
theorem Cp:bO Tryz.prog 17=true:=by kernel_rfl
theorem xa:bO Tryz.prog 29=true:=by kernel_rfl
theorem WM:bO Tryz.prog 36=true:=by kernel_rfl
theorem xb:(Tryz.prog.info? 59).map (·.size)=some 4:=by kernel_rfl
abbrev Mv (x:Act) (a:List ax) (k:Nat):Nat→AV:=(upd (upd (upd (upd (upd none_ 2 (.pt 2 0)) 3 (.pt 3 0)) 4 vN) 5 (.sl 1 0 ((cI x a.length k).length))) 6 (.i (k:Int)))
abbrev Mw (a:List ax):ay:=⟨[.one,.q aI a,.one,.one,.one,.one,.one,.one,.one,.one],35,1⟩
abbrev Mx (x:Act):ay:=⟨[.v (.int .u8 x.dw),.v (.int .u8 x.n),.v (.int .u8 x.tr),.q aC x.bE,.q aC x.ow,.q eB x.rt,.q aC x.sp,.v (.int .u8 x.tk)],43,1⟩
abbrev My (x:Act) (a:List ax) (k:Nat):Nat→aK:=(ah (ah (ah aG 1 (.live ⟨(enc eI (cI x a.length k)),3,1⟩)) 2 (.live (Mw a))) 3 (.live (Mx x)))
theorem Hp (a:List ax) (x:Act) (hs:a.length≤65536) (hx:mo x) (hs1:1≤a.length) (hsp:x.sp.length≤6):Fn Tryz.prog 26 [.agg [.one,.q aI a,.one,.one,.one,.one,.one,.one,.one,.one],.agg [.v (.int .u8 x.dw),.v (.int .u8 x.n),.v (.int .u8 x.tr),.q aC x.bE,.q aC x.ow,.q eB x.rt,.q aC x.sp,.v (.int .u8 x.tk)]] (.q eI (cI x a.length x.sp.length)):=by
 have hx1:=hx.dw;have hx2:=hx.n;have hx3:=hx.tr;have hx4:=hx.tk;have hx5:=hx.l1;have hx6:=hx.l2;have hx7:=hx.l3;have pm:=hx.l4;refine cf (N:=28) Tryz.func26 rfl rfl (b_ rfl) (by simp) (fun w0 X bJ=>?_);refine aj (oG (qW 51 ?_));refine oG (qW 52 ?_);refine mV ?_;refine ak (aj (mV ?_));refine rU (upd (upd (upd (upd none_ 2 (.pt 51 0)) 3 (.pt 52 0)) 4 vN) 5 vN) (ah (ah aG 51 (.live (Mw a))) 52 (.live (Mx x))) ?_;refine aB (aj (mV ?_));refine ak (bf (cF (fun k=>⟨(Mv x a k),(My x a k)⟩) (fun k=>True) (x.sp.length) ?_ trivial (fun k dq hinv=>?_)))
 ·skip;refine (iz 5 53 3 1 rfl rfl).trans ?_;exact iL [(53,1),(51,2),(52,3)] [((53,1),.live _),((51,2),.live _),((52,3),.live _)] ⟨aP (o:=⟨[],3,1⟩) rfl rfl,aP rfl rfl,aP rfl rfl,trivial⟩
 have hsl:=s9 (x:=x) (n:=a.length) (k:=k) om;refine aB (aj (mV ?_));refine fG (.pt 3 6) Bb d3 ?_;refine oO dX ?_;refine oG (qN cq ?_);refine bB ?_;refine rU (upd (Mv x a k) 11 (.b (decide ((k:Int)<(x.sp.length:Int))))) (My x a k) ?_;refine cD (fun hc0=>?_) fun hc0=>?_
 ·skip;have hf1:=of_decide_eq_true hc0;have hsb:=hx.sp _ (c8 (l:=x.sp) (k:=k) 0 om);refine aR (aB (bf (aD 12 [(25,.ro 1 [.i ((x.sp.getD k 0) % (a.length:Int))]),(24,.i ((x.sp.getD k 0) % (a.length:Int))),(23,.i (a.length:Int)),(22,.q aI a),(21,.pt 2 1),(20,.i (x.sp.getD k 0)),(19,.v (.int .u8 (x.sp.getD k 0))),(18,.rp (([.v (.int .u8 (x.sp.getD k 0))]:List AV)++((enc aC x.sp).drop ((k+1)*1)))),(17,.i (k:Int)),(16,.q aC x.sp),(15,.pt 3 6),(14,.sl 1 0 ((cI x a.length k).length))] mixed ?_ ?_)))
  ·refine ⟨?_,?_,?_,?_,?_,?_,?_,?_,?_,?_,?_,?_,trivial⟩
   ·exact aM
   ·exact sF (.pt 3 0) (.pt 3 6) Bb d3
   ·exact sL dX
   ·exact aM
   ·exact (d4 (0:Int) cq cR)
   ·exact (cN dB)
   ·exact dW 20 fun st ap hE=>gR rfl rfl rfl iU gm (hE 19 rfl) (IntWalk.i64_in _ om) (by rw [ap];rfl)
   ·exact sF (.pt 2 0) (.pt 2 1) iM ZJ
   ·exact sL i7
   ·exact dW 23 fun st ap hE=>d_ rfl rfl rfl rfl iR (lJ (hE 22 rfl)) (by rw [ap];rfl)
   ·exact dW 24 fun st ap hE=>ez (u:=(.int .i64 ((x.sp.getD k 0) % (a.length:Int)))) rfl rfl rfl (hE 20 rfl) (hE 23 rfl) (by show _≠_;omega) (f5 om) (by rw [ap];rfl)
   exact dW 25 fun st ap hE=>Y8 rfl rfl rfl cG mF (by decide) (by decide) (by simp only [eY,List.map,aU,hE 24 rfl];rfl) rfl (by rw [ap];rfl)
  refine oG (hS (f:=eI) (l:=cI x a.length k) 54 ((x.sp.getD k 0) % (a.length:Int):Int) rfl rfl rfl rfl cG ud rfl (by decide) rfl rfl rfl rfl rfl rfl (fun _=>rfl) rfl rfl oo oo rfl ?_);refine mS ?_;refine ak (bm (mV ?_));refine oG (qB (.int .i64 ((k+1:Nat):Int)) (addN om) ?_);refine mV ?_;refine ak ?_;show _∧_;have hs_:=Qr (x:=x) (n:=a.length) (k:=k) om;refine ⟨by omega,trivial,?_⟩;exact iL [(54,1),(2,2),(3,3)] [((54,1),.live _),((2,2),.live _),((3,3),.live _)] ⟨aP (o:=⟨(enc eI ((cI x a.length k)++[((x.sp.getD k 0) % (a.length:Int):Int)])),3,1⟩) rfl (by exact congrArg (fun l_=>ay.mk (enc eI l_) 3 1) hs_),aP rfl rfl,aP rfl rfl,trivial⟩ (he:=(sS rfl (sM (by exact congrArg (AV.sl 1 0) (congrArg List.length hs_.symm)) (sS rfl (sM rfl (sM rfl bQ))))))
 have hf2:=of_decide_eq_false hc0;refine cu (aj (mS ?_));refine mS ?_;refine ak (cy _ (d8 rfl (fun _ h=>h) (dy 4 (.q eI (cI x a.length k)) (fv (id:=1) (n:=(cI x a.length k).length) (o:=⟨(enc eI (cI x a.length k)),3,1⟩) rfl (YW (fun _=>rfl) (by first|rfl|(simp;done)))) d9)) ?_);exact aV (bq (av:=.ro ((cI x a.length k).length) (enc eI (cI x a.length k))) rfl rfl (by rw [show k=x.sp.length by omega]))
theorem RX (c:List ax) (a:List aH) (b:List (List Int)) (ls:List Lk) (hs:c.length≤65536) (hp:a.length≤65536) (hro:b.length≤65536) (hll:ls.length≤65536) (hlk:∀x,x∈ls→gn b x):Fn Tryz.prog 13 [.rp [.one,.one,.one,.q aE a,.q YO b,.one,.one,.one,.one,.one,.rp [.one,.q aI c,.one,.q aE a,.one,.one,.one,.one,.one,.one],.q dm ls]] (.q eB (eE c a b ls)):=RY (AA c a b ls hs hp hro hll hlk) (by show (enc eB _).length=_;rw [fI (s:=1) (fun _=>rfl),Nat.mul_one]) cU.out
abbrev sw (ls:List Lk) (k:Nat):List AV:=(enc aC ((ls.getD k ao).pieces))
abbrev yE (ls:List Lk) (k:Nat):List AV:=[.i ((ls.getD k ao).ends),.ro ((ls.getD k ao).pieces.length) (sw ls k)]
abbrev yF (ls:List Lk) (k:Nat):List AV:=[.i ((ls.getD k ao).cX),.i ((ls.getD k ao).ends),.ro ((ls.getD k ao).pieces.length) (sw ls k)]
abbrev pn (a:List ax) (d:List aH) (c:List (List Int)):List AV:=[.one,.q aI a,.one,.q aE d,.q YO c,.one,.one,.one,.one,.one]
abbrev uX (a:List ax) (d:List aH) (c:List (List Int)) (ls:List Lk):List AV:=[.one,.q aI a,.one,.q aE d,.q YO c,.one,.one,.one,.one,.one,.rp [.one,.q aI a,.one,.q aE d,.one,.one,.one,.one,.one,.one],.q dm ls]
abbrev mK (ls:List Lk) (k:Nat):List AV:=[.i ((ls.getD k ao).route),.i ((ls.getD k ao).cX),.i ((ls.getD k ao).ends),.ro ((ls.getD k ao).pieces.length) (sw ls k)]
abbrev yG (a:List ax) (d:List aH) (c:List (List Int)):Nat→aK:=(ah aG 1 (.live ⟨(pn a d c),35,1⟩))
abbrev yH (ls:List Lk) (k:Nat):List AV:=[.ro ((ls.getD k ao).pieces.length) (sw ls k)]
abbrev yI (a:List ax) (d:List aH) (c:List (List Int)) (ls:List Lk):Nat→AV:=(upd (upd (upd (upd none_ 1 (.rp (uX a d c ls))) 2 (.q aQ ls)) 3 (.pt 1 0)) 6 (.b false))
abbrev nq (ls:List Lk) (k:Nat):AV:=(.rp (((mK ls k):List AV)++((enc aQ ls).drop ((k+1)*4))))
theorem YS (a:List ax) (d:List aH) (c:List (List Int)) (ls:List Lk) (hs:a.length≤65536) (hp:d.length≤65536) (h:c.length≤65536) (f:ls.length≤65536) (e:∀x,x∈ls→gn c x) (hlr:∀x,x∈ls→kj c x) (hss:∀x,x∈ls→∀s,s∈(c.getD x.route.toNat [])→0≤s∧s<(a.length:Int)) (g:∀s,e8 c ls s=fw c ls s) (mq:eE a d c ls=gW a d c ls):Fn Tryz.prog 12 [.agg [.one,.q aI a,.one,.q aE d,.q YO c,.one,.one,.one,.one,.one],.rp [.one,.q aI a,.one,.q aE d,.q YO c,.one,.one,.one,.one,.one,.rp [.one,.q aI a,.one,.q aE d,.one,.one,.one,.one,.one,.one],.q dm ls],.q aQ ls] (.v (.bool true)):=by
 refine cf (N:=107) Tryz.func12 rfl rfl (b_ rfl) (by simp) (fun w0 X bJ=>?_);refine aj (oG (qW 51 ?_));refine mV ?_;refine ak (aj (mR ?_));refine oG (qC (Ru ls f (fun x hx=>by have uD:=(e x hx).ps;have l0:=(e x hx).ln;omega)) Cp ?_);refine mO ?_;refine rU (upd (upd (upd (upd (upd none_ 1 (.rp (uX a d c ls))) 2 (.q aQ ls)) 3 (.pt 51 0)) 6 (.b false)) 7 (.q aQ ls)) (ah aG 51 (.live ⟨(pn a d c),35,1⟩)) ?_;refine aB (aB ((Bool.eq_false_or_eq_true ((ls.length:Int) != (ls.length:Int))).elim (fun hg1=>?_) (fun hg1=>?_)))
 ·skip;have hf2:=(bne_iff_ne).1 hg1;exfalso;first|(simp at hg1;done)|(rw [zY g] at hg1;simp at hg1)
 have hf3:=(bne_eq_false_iff_eq).1 hg1;refine (Bool.eq_false_or_eq_true (!(decide ((c_ c ls a.length a.length)=(Y7 c ls a.length))))).elim (fun hg4=>?_) (fun hg4=>?_)
 ·skip;have g0:=gF hg4;exfalso;first|(simp at hg4;done)|(rw [zY g] at hg4;simp at hg4)
 have fB:=gG hg4;refine aD 23 [(34,.b (!(decide ((eE a d c ls)=(gW a d c ls))))),(33,.b (!(decide ((eE a d c ls)=(gW a d c ls))))),(32,.b (decide ((eE a d c ls)=(gW a d c ls)))),(31,.q eB (gW a d c ls)),(30,.q aQ ls),(29,.agg (pn a d c)),(28,.q eB (eE a d c ls)),(27,.rp (uX a d c ls)),(26,.b (!(decide ((c_ c ls a.length a.length)=(Y7 c ls a.length))))),(25,.b (!(decide ((c_ c ls a.length a.length)=(Y7 c ls a.length))))),(24,.b (!(decide ((c_ c ls a.length a.length)=(Y7 c ls a.length))))),(23,.b (decide ((c_ c ls a.length a.length)=(Y7 c ls a.length)))),(22,.q eB (Y7 c ls a.length)),(21,.q aQ ls),(20,.agg (pn a d c)),(19,.q eB (c_ c ls a.length a.length)),(18,.rp (uX a d c ls)),(17,.b ((ls.length:Int) != (ls.length:Int))),(16,.b ((ls.length:Int) != (ls.length:Int))),(15,.i (ls.length:Int)),(14,.q aQ ls),(13,.i (ls.length:Int)),(12,.q aQ ls)] mixed ?_ ?_
 ·iterate 23 (refine ⟨?_,?_⟩;rotate_left)
  trivial
  ·exact aM
  ·exact dW 13 fun st ap hE=>d_ rfl rfl rfl rfl lR (lJ (hE 12 rfl)) (by rw [ap];rfl)
  ·exact aM
  ·exact dW 15 fun st ap hE=>d_ rfl rfl rfl rfl fA (lJ (hE 14 rfl)) (by rw [ap];rfl)
  ·exact sB (.bool ((ls.length:Int) != (ls.length:Int))) rfl
  ·exact aM
  ·exact bP hg1 aM
  ·exact bP hg1 (sC (Ol a c ls hs h f e) w6)
  ·exact bP hg1 (ed (pn a d c) du cC)
  ·exact bP hg1 aM
  ·exact bP hg1 (sC (FK a c ls oo oo oo oo) Kd)
  ·exact bP hg1 (dW 23 fun st ap hE=>call_ (vt (c_ c ls a.length a.length) (Y7 c ls a.length) (by have h_:=rm (routes:=c) (ls:=ls) (k:=a.length) (n:=a.length) om;omega)) rfl rfl rfl rfl rfl xa (by show [st.env 19,st.env 22]++_=_;rw [hE 19 rfl,hE 22 rfl];rfl) (by rw [ap];rfl))
  ·exact bP hg1 (dW 24 fun st ap hE=>er rfl rfl rfl (hE 23 rfl) (by rw [ap];rfl))
  ·exact dW 25 fun st ap hE=>fJ (b:=((ls.length:Int) != (ls.length:Int))) (av:=.b (!(decide ((c_ c ls a.length a.length)=(Y7 c ls a.length))))) rfl rfl rfl (hE 17 rfl) (by rw [hg1];exact hE 24 rfl) (by rw [ap];rfl)
  ·exact aM
  ·exact bP hg4 aM
  ·exact bP hg4 (sC (RX a d c ls hs hp h f e) w5)
  ·exact bP hg4 (ed (pn a d c) du cC)
  ·exact bP hg4 aM
  ·exact bP hg4 (dW 31 fun st ap hE=>call_ (Ho a d c ls oo oo oo oo oo oo) rfl rfl rfl rfl rfl Ke (by show [st.env 29,st.env 30]++_=_;rw [hE 29 rfl,hE 30 rfl];rfl) (by rw [ap];rfl))
  ·exact bP hg4 (dW 32 fun st ap hE=>call_ (vt (eE a d c ls) (gW a d c ls) (by have h_:=zU (secs:=a) (pts:=d) (routes:=c) (ls:=ls);omega)) rfl rfl rfl rfl rfl xa (by show [st.env 28,st.env 31]++_=_;rw [hE 28 rfl,hE 31 rfl];rfl) (by rw [ap];rfl))
  ·exact bP hg4 (dW 33 fun st ap hE=>er rfl rfl rfl (hE 32 rfl) (by rw [ap];rfl))
  exact dW 34 fun st ap hE=>fJ (b:=(!(decide ((c_ c ls a.length a.length)=(Y7 c ls a.length))))) (av:=.b (!(decide ((eE a d c ls)=(gW a d c ls))))) rfl rfl rfl (hE 26 rfl) (by rw [hg4];exact hE 33 rfl) (by rw [ap];rfl)
 refine ak (cD (fun hc0=>?_) fun hc0=>?_)
 ·skip;have gl:=gF hc0;exfalso;rw [mq] at hc0;simp at hc0
 have il:=gG hc0;refine aR (aB (aj (mV ?_)));refine ak (bf (cF (fun k=>⟨(upd (upd (yI a d c ls) 7 (.q aQ ls)) 8 (.i (k:Int))),(yG a d c)⟩) (fun k=>True) (ls.length) ?_ trivial (fun k dq hinv=>?_)))
 ·skip;exact iI 51 1 rfl
 refine aB (aj (mV ?_));refine mO ?_;refine oG (qN lR ?_);refine bB ?_;refine rU (upd (upd (upd (yI a d c ls) 7 (.q aQ ls)) 8 (.i (k:Int))) 38 (.b (decide ((k:Int)<(ls.length:Int))))) (yG a d c) ?_;refine cD (fun hc1=>?_) fun hc1=>?_
 ·skip;have lz:=of_decide_eq_true hc1;have hxk:=e _ (c8 (l:=ls) (k:=k) ao om);have hxp:=hxk.ps;have hxl:=hxk.ln;refine aR (aB (bf (aB ((Bool.eq_false_or_eq_true (((ls.getD k ao).route) != ((ls.getD k ao).route))).elim (fun fj=>?_) (fun fj=>?_)))))
  ·skip;have kL:=(bne_iff_ne).1 fj;exfalso;simp at fj
  have kK:=(bne_eq_false_iff_eq).1 fj;refine (Bool.eq_false_or_eq_true (((ls.getD k ao).cX) != ((ls.getD k ao).cX))).elim (fun fz=>?_) (fun fz=>?_)
  ·skip;have lP:=(bne_iff_ne).1 fz;exfalso;simp at fz
  have nS:=(bne_eq_false_iff_eq).1 fz;refine (Bool.eq_false_or_eq_true (((ls.getD k ao).ends) != ((ls.getD k ao).ends))).elim (fun e9=>?_) (fun e9=>?_)
  ·skip;have ZW:=(bne_iff_ne).1 e9;exfalso;simp at e9
  have mx:=(bne_eq_false_iff_eq).1 e9;refine aD 51 [(91,.b (!(decide (((ls.getD k ao).pieces)=((ls.getD k ao).pieces))))),(90,.b (!(decide (((ls.getD k ao).pieces)=((ls.getD k ao).pieces))))),(89,.b (decide (((ls.getD k ao).pieces)=((ls.getD k ao).pieces)))),(88,.ro ((ls.getD k ao).pieces.length) (sw ls k)),(87,.rp (((yH ls k):List AV)++((enc aQ ls).drop ((k+1)*4)))),(86,.rp (((mK ls k):List AV)++((enc aQ ls).drop ((k+1)*4)))),(85,.i (k:Int)),(84,.q aQ ls),(83,.ro ((ls.getD k ao).pieces.length) (sw ls k)),(82,.rp (((yH ls k):List AV)++((enc aQ ls).drop ((k+1)*4)))),(81,.rp (((mK ls k):List AV)++((enc aQ ls).drop ((k+1)*4)))),(80,.i (k:Int)),(79,.q aQ ls),(78,.b (((ls.getD k ao).ends) != ((ls.getD k ao).ends))),(77,.b (((ls.getD k ao).ends) != ((ls.getD k ao).ends))),(76,.b (((ls.getD k ao).ends) != ((ls.getD k ao).ends))),(75,.i ((ls.getD k ao).ends)),(74,.rp (((yE ls k):List AV)++((enc aQ ls).drop ((k+1)*4)))),(73,.rp (((mK ls k):List AV)++((enc aQ ls).drop ((k+1)*4)))),(72,.i (k:Int)),(71,.q aQ ls),(70,.i ((ls.getD k ao).ends)),(69,.rp (((yE ls k):List AV)++((enc aQ ls).drop ((k+1)*4)))),(68,.rp (((mK ls k):List AV)++((enc aQ ls).drop ((k+1)*4)))),(67,.i (k:Int)),(66,.q aQ ls),(65,.b (((ls.getD k ao).cX) != ((ls.getD k ao).cX))),(64,.b (((ls.getD k ao).cX) != ((ls.getD k ao).cX))),(63,.b (((ls.getD k ao).cX) != ((ls.getD k ao).cX))),(62,.i ((ls.getD k ao).cX)),(61,.rp (((yF ls k):List AV)++((enc aQ ls).drop ((k+1)*4)))),(60,.rp (((mK ls k):List AV)++((enc aQ ls).drop ((k+1)*4)))),(59,.i (k:Int)),(58,.q aQ ls),(57,.i ((ls.getD k ao).cX)),(56,.rp (((yF ls k):List AV)++((enc aQ ls).drop ((k+1)*4)))),(55,.rp (((mK ls k):List AV)++((enc aQ ls).drop ((k+1)*4)))),(54,.i (k:Int)),(53,.q aQ ls),(52,.b (((ls.getD k ao).route) != ((ls.getD k ao).route))),(51,.b (((ls.getD k ao).route) != ((ls.getD k ao).route))),(50,.i ((ls.getD k ao).route)),(49,.rp (((mK ls k):List AV)++((enc aQ ls).drop ((k+1)*4)))),(48,.rp (((mK ls k):List AV)++((enc aQ ls).drop ((k+1)*4)))),(47,.i (k:Int)),(46,.q aQ ls),(45,.i ((ls.getD k ao).route)),(44,.rp (((mK ls k):List AV)++((enc aQ ls).drop ((k+1)*4)))),(43,.rp (((mK ls k):List AV)++((enc aQ ls).drop ((k+1)*4)))),(42,.i (k:Int)),(41,.q aQ ls)] mixed ?_ ?_
  ·iterate 51 (refine ⟨?_,?_⟩;rotate_left)
   trivial
   ·exact aM
   ·exact aM
   ·exact (d4 ao lR xb)
   ·exact sF (nq ls k) (nq ls k) oL bC
   ·exact (cN Y0)
   ·exact aM
   ·exact aM
   ·exact (d4 ao fA gj)
   ·exact sF (nq ls k) (nq ls k) pR bC
   ·exact (cN Y0)
   ·exact sB (.bool (((ls.getD k ao).route) != ((ls.getD k ao).route))) rfl
   ·exact aM
   ·exact bP fj aM
   ·exact bP fj aM
   ·exact bP fj (d4 ao lR xb)
   ·exact bP fj (sF (nq ls k) (.rp (((yF ls k):List AV)++((enc aQ ls).drop ((k+1)*4)))) v9 bC)
   ·exact bP fj (cN Y0)
   ·exact bP fj aM
   ·exact bP fj aM
   ·exact bP fj (d4 ao fA gj)
   ·exact bP fj (sF (nq ls k) (.rp (((yF ls k):List AV)++((enc aQ ls).drop ((k+1)*4)))) IH bC)
   ·exact bP fj (cN Y0)
   ·exact bP fj (sB (.bool (((ls.getD k ao).cX) != ((ls.getD k ao).cX))) rfl)
   ·exact dW 64 fun st ap hE=>fJ (b:=(((ls.getD k ao).route) != ((ls.getD k ao).route))) (av:=.b (((ls.getD k ao).cX) != ((ls.getD k ao).cX))) rfl rfl rfl (hE 52 rfl) (by rw [fj];exact hE 63 rfl) (by rw [ap];rfl)
   ·exact aM
   ·exact bP fz aM
   ·exact bP fz aM
   ·exact bP fz (d4 ao lR xb)
   ·exact bP fz (sF (nq ls k) (.rp (((yE ls k):List AV)++((enc aQ ls).drop ((k+1)*4)))) pP gL)
   ·exact bP fz (cN kS)
   ·exact bP fz aM
   ·exact bP fz aM
   ·exact bP fz (d4 ao fA gj)
   ·exact bP fz (sF (nq ls k) (.rp (((yE ls k):List AV)++((enc aQ ls).drop ((k+1)*4)))) pS gL)
   ·exact bP fz (cN kS)
   ·exact bP fz (sB (.bool (((ls.getD k ao).ends) != ((ls.getD k ao).ends))) rfl)
   ·exact dW 77 fun st ap hE=>fJ (b:=(((ls.getD k ao).cX) != ((ls.getD k ao).cX))) (av:=.b (((ls.getD k ao).ends) != ((ls.getD k ao).ends))) rfl rfl rfl (hE 65 rfl) (by rw [fz];exact hE 76 rfl) (by rw [ap];rfl)
   ·exact aM
   ·exact bP e9 aM
   ·exact bP e9 aM
   ·exact bP e9 (d4 ao lR xb)
   ·exact bP e9 (sF (nq ls k) (.rp (((yH ls k):List AV)++((enc aQ ls).drop ((k+1)*4)))) jh d3)
   ·exact bP e9 (cN dX)
   ·exact bP e9 aM
   ·exact bP e9 aM
   ·exact bP e9 (d4 ao fA gj)
   ·exact bP e9 (sF (nq ls k) (.rp (((yH ls k):List AV)++((enc aQ ls).drop ((k+1)*4)))) ji d3)
   ·exact bP e9 (cN dX)
   ·exact bP e9 (dW 89 fun st ap hE=>call_ (OL ((ls.getD k ao).pieces) ((ls.getD k ao).pieces) oo) rfl rfl rfl rfl rfl WM (by show [st.env 83,st.env 88]++_=_;rw [hE 83 rfl,hE 88 rfl];rfl) (by rw [ap];rfl))
   ·exact bP e9 (dW 90 fun st ap hE=>er rfl rfl rfl (hE 89 rfl) (by rw [ap];rfl))
   exact dW 91 fun st ap hE=>fJ (b:=(((ls.getD k ao).ends) != ((ls.getD k ao).ends))) (av:=.b (!(decide (((ls.getD k ao).pieces)=((ls.getD k ao).pieces))))) rfl rfl rfl (hE 78 rfl) (by rw [e9];exact hE 90 rfl) (by rw [ap];rfl)
  refine ak (cD (fun hc2=>?_) fun hc2=>?_)
  ·skip;have nT:=gF hc2;exfalso;simp at hc2
  have oW:=gG hc2;refine aR (bm (mV ?_));refine oG (qB (.int .i64 ((k+1:Nat):Int)) (addN om) ?_);refine mV ?_;refine ak ?_;show _∧_;refine ⟨by omega,trivial,?_⟩;exact iI 1 1 rfl
 have rR:=of_decide_eq_false hc1;refine cu (aB (aj (mV ?_)));refine ak (bf (cF (fun j=>⟨(upd (yI a d c ls) 9 (.i ((j:Int)-1))),(yG a d c)⟩) (fun j=>True) (a.length+2) ?_ trivial (fun j lr hinv=>?_)))
 ·skip;exact iI 1 1 rfl (he:=(sS (by exact congrArg (fun n_:Int=>AV.v (.int .i64 n_)) (show (-1:Int)=((0:Nat):Int)-1 by rfl)) (sS rfl (sM rfl (sS rfl (sS rfl bQ))))))
 refine aB (aj (mV ?_));refine fG (.pt 1 1) iM ZJ ?_;refine oO i7 ?_;refine oG (qN iR ?_);refine bB ?_;refine rU (upd (upd (yI a d c ls) 9 (.i ((j:Int)-1))) 96 (.b (decide (((j:Int)-1)≤(a.length:Int))))) (yG a d c) ?_;refine cD (fun hc3=>?_) fun hc3=>?_
 ·skip;have tQ:=of_decide_eq_true hc3;refine aR (aB (bf (aB (aD 8 [(106,.b ((e8 c ls ((j:Int)-1)) != (fw c ls ((j:Int)-1)))),(105,.i (fw c ls ((j:Int)-1))),(104,.i ((j:Int)-1)),(103,.q aQ ls),(102,.agg (pn a d c)),(101,.i (e8 c ls ((j:Int)-1))),(100,.i ((j:Int)-1)),(99,.rp (uX a d c ls))] mixed ?_ ?_))))
  ·refine ⟨?_,?_,?_,?_,?_,?_,?_,?_,trivial⟩
   ·exact aM
   ·exact aM
   ·exact sC (vT c ls ((j:Int)-1) oo oo oo) w3
   ·exact ed (pn a d c) du cC
   ·exact aM
   ·exact aM
   ·exact sC (zW c ls ((j:Int)-1) oo oo oo) Cl
   exact sB (.bool ((e8 c ls ((j:Int)-1)) != (fw c ls ((j:Int)-1)))) rfl
  refine ak (cD (fun hc4=>?_) fun hc4=>?_)
  ·skip;have B8:=(bne_iff_ne).1 hc4;exfalso;rw [g] at hc4;simp at hc4
  have tS:=(bne_eq_false_iff_eq).1 hc4;refine aR (bm (mV ?_));refine oG (qB (.int .i64 (((j:Int)-1)+1)) (gH om) ?_);refine mV ?_;refine ak ?_;show _∧_;refine ⟨by omega,trivial,?_⟩;exact iI 1 1 rfl (he:=(sS (by exact congrArg (fun n_:Int=>AV.v (.int .i64 n_)) (show ((j:Int)-1)+1=((j+1:Nat):Int)-1 by omega)) (sS rfl (sM rfl (sS rfl (sS rfl bQ))))))
 have Ce:=of_decide_eq_false hc3;refine cu (aj (mV ?_));exact ak (aV (bq (av:=.v (.bool true)) rfl rfl rfl))
abbrev Mz (b:List ax) (d:List (List Int)) (c:List aH) (a:List (List Int)) (cn:Int) (ls:List Lk):ay:=⟨[.one,.q aI b,.q YO d,.q aE c,.q YO a,.one,.one,.one,.v (.int .i64 cn),.one,.rp [.one,.q aI b,.q YO d,.q aE c,.one,.one,.one,.one,.one,.one],.sl 1 0 ls.length],73,1⟩
theorem Tf (b:List ax) (d:List (List Int)) (c:List aH) (a:List (List Int)) (cn:Int) (ls:List Lk) (r tr:Int) (g:List Int) (f:List View) (e:List Bool) (h:ls.length≤16) (hs:b.length≤65536) (hp:c.length≤65536) (i:a.length≤65536) (j:g.length≤65536) (hn:f.length≤65536) (hv:∀v,v∈f→v.span.length≤65536) (m:e.length≤65536) (n:∀x,x∈a→2≤x.length∧x.length≤9) (o:∀x,x∈a→∀s,s∈x→0≤s) (p:∀x,x∈ls→gn a x) (hwho:∀s,e8 a ls s=fw a ls s) (mq:eE b c a ls=gW b c a ls) (hne:¬(dV b c a ls r g f e)=0):fi Tryz.prog 16 (fN (Mz b d c a cn ls) ⟨(enc b5 (br ls.length)),91,1⟩ (fam 59 5 ls)) [.pt 0 0,.v (.int .i64 r),.v (.int .i64 tr),.q aC g,.q eV f,.q eB e] (.bw [.q eB e,.v (.int .i64 (dV b c a ls r g f e))]) (fp (.live (Mz b d c a cn ls)) (.live ⟨(enc b5 (br ls.length)),91,1⟩) (fam 59 5 ls) []):=by
 rcases Ou hwho mq hne with ⟨he,h1⟩|⟨he,h1,h2⟩|⟨he,h1,h2,h3⟩|⟨he,h1,h2,h3,h4⟩
 ·rw [he];exact RE b d c a cn ls r tr g f e h hs hp i j hn hv m h1
 ·rw [he];exact RF b d c a cn ls r tr g f e h hs hp i j hn hv m h1 h2
 ·rw [he];have fT:=ti h1;have kn:=n _ (c8 (l:=a) (k:=r.toNat) [] (by omega));have jK:∀s,s∈bu a r→0≤s:=fun s h_=>o _ (c8 (l:=a) (k:=r.toNat) [] (by omega)) s (List.mem_of_mem_drop h_);exact RG b d c a cn ls r tr g f e h hs hp i j hn hv m h1 h2 kn jK p h3
 ·rw [he];have fT:=ti h1;have kn:=n _ (c8 (l:=a) (k:=r.toNat) [] (by omega));have jK:∀s,s∈bu a r→0≤s:=fun s h_=>o _ (c8 (l:=a) (k:=r.toNat) [] (by omega)) s (List.mem_of_mem_drop h_);exact RH b d c a cn ls r tr g f e h hs hp i j hn hv m h1 h2 kn jK p h3 h4
abbrev MA (b:List ax) (d:List (List Int)) (c:List aH):List AV:=[.one,.q aI b,.q YO d,.q aE c,.one,.one,.one,.one,.one,.one]
theorem RZ (b:List ax) (d:List (List Int)) (c:List aH) (a:List (List Int)) (cn:Int) (ls:List Lk) (r tr:Int) (g:List Int) (f:List View) (e:List Bool) (hll:ls.length≤16) (hs:b.length≤65536) (hp:c.length≤65536) (hro:a.length≤65536) (hst:g.length≤65536) (hn:f.length≤65536) (hv:∀v,v∈f→v.span.length≤65536) (hrt:e.length≤65536) (hrl:∀x,x∈a→2≤x.length∧x.length≤9) (hrs:∀x,x∈a→∀s,s∈x→0≤s) (hlk:∀x,x∈ls→gn a x) (hwho:∀s,e8 a ls s=fw a ls s) (mq:eE b c a ls=gW b c a ls) (he0:(dV b c a ls r g f e)=0):fi Tryz.prog 16 (fN ⟨[.one,.q aI b,.q YO d,.q aE c,.q YO a,.one,.one,.one,.v (.int .i64 cn),.one,.rp (MA b d c),.sl 1 0 ls.length],73,1⟩ ⟨(enc b5 (br ls.length)),91,1⟩ (fam 59 5 ls)) [.pt 0 0,.v (.int .i64 r),.v (.int .i64 tr),.q aC g,.q eV f,.q eB e] (.bw [.q eB (dh e (b6 (bz b c (a.getD r.toNat [])) e)),.v (.int .i64 0)]) (fp (.live ⟨[.one,.q aI b,.q YO d,.q aE c,.q YO a,.one,.one,.one,.v (.int .i64 cn),.one,.rp (MA b d c),.sl 56 0 (ls.length+1)],73,1⟩) (.dead) (fam 59 5 ls) [.live ⟨(enc b5 (br ls.length)++[.pt 57 0]),91,1⟩,.live ⟨[.v (.int .i64 r),.v (.int .i64 tr),.v (.int .i64 (-1)),.sl 58 0 ((List.replicate (bu a r).length (1:Int)).length)],59,1⟩,.live ⟨(enc aC (List.replicate (bu a r).length (1:Int))),5,1⟩]):=by
 obtain ⟨h1,h2,h3,h4⟩:=Ov hwho mq he0;have fT:=ti h1;have kn:=hrl _ (c8 (l:=a) (k:=r.toNat) [] (by omega));have jK:∀s,s∈bu a r→0≤s:=fun s h_=>hrs _ (c8 (l:=a) (k:=r.toNat) [] (by omega)) s (List.mem_of_mem_drop h_);exact RI b d c a cn ls r tr g f e hll hs hp hro hst hn hv hrt h1 h2 kn jK hlk h3 h4
abbrev XA (c:List ax) (d:List (List Int)) (e:List aH):List AV:=[.one,.q aI c,.q YO d,.q aE e,.one,.one,.one,.one,.one,.one]
abbrev yJ (ls:List Lk):ay:=⟨(enc b5 (br ls.length)),91,1⟩
abbrev MB (c:List ax) (d:List (List Int)) (e:List aH) (f:List (List Int)) (cn:Int) (ls:List Lk):ay:=⟨[.one,.q aI c,.q YO d,.q aE e,.q YO f,.one,.one,.one,.v (.int .i64 cn),.one,.rp [.one,.q aI c,.q YO d,.q aE e,.one,.one,.one,.one,.one,.one],.sl 1 0 ls.length],73,1⟩
abbrev MC (c:List ax) (d:List (List Int)) (e:List aH) (f:List (List Int)) (cn:Int) (ls:List Lk):ay:=⟨[.one,.q aI c,.q YO d,.q aE e,.q YO f,.one,.one,.one,.i cn,.one,.rp (XA c d e),.sl 1 0 ls.length],73,1⟩
theorem R0 (c:List ax) (d:List (List Int)) (e:List aH) (f:List (List Int)) (cn:Int) (ls:List Lk) (r g:Int) (hll:ls.length≤16) (hro:f.length≤65536) (hr:eo f r=false):fi Tryz.prog 31 (fN (MB c d e f cn ls) (yJ ls) (fam 59 5 ls)) [.pt 0 0,.v (.int .i64 r),.v (.int .i64 g)] (.v (.int .i64 7)) (fp (.live (MB c d e f cn ls)) (.live (yJ ls)) (fam 59 5 ls) []):=by
 refine jx (N:=32) Tryz.func31 rfl rfl (b_ rfl) (by simp) (fun w0 G C bJ gX=>?_);refine aj (mV ?_);refine ak (aB (aj (mP ?_)));refine mV ?_;refine oG (eA (nO f r oo) rfl rfl rfl rfl rfl nV lT ?_);refine oG (er rfl rfl rfl rfl ?_);refine rU (upd (upd (upd (upd (upd none_ 0 (.pt 0 0)) 1 (.i r)) 2 (.i g)) 6 (.i 0)) 11 (.b (!(eo f r)))) (ah (ah (cA (fam 59 5 ls)) 0 (.live (MC c d e f cn ls))) 1 (.live (yJ ls))) ?_;refine cD (fun hc0=>?_) fun hc0=>?_
 ·skip;have hf1:=gF hc0;refine aj (mV ?_);refine ak (cy ⟨(upd none_ 6 (.i 7)),(ah (ah (cA (fam 59 5 ls)) 0 (.live (MC c d e f cn ls))) 1 (.live (yJ ls)))⟩ ?_ ?_)
  ·skip;exact iF [(0,0),(1,1)] [((0,0),.live _),((1,1),.live _)] (by repeat (first|exact fb|apply fo rfl)) (dv om) ⟨b8 rfl ca bF,eS rfl (by decide) rfl rfl (fun k_ h_=>by have:=dI h_;omega),trivial⟩ (.inr ⟨rfl,by simp,by simp⟩)
  exact aV (i6 rfl rfl rfl)
 have hf2:=gG hc0;exfalso;rw [hr] at hc0;cases hc0
abbrev EL (ls:List Lk):ay:=⟨(enc b5 (br ls.length)),91,1⟩
abbrev MD (c:List ax) (d:List (List Int)) (e:List aH) (f:List (List Int)) (cn:Int) (ls:List Lk):ay:=⟨[.one,.q aI c,.q YO d,.q aE e,.q YO f,.one,.one,.one,.v (.int .i64 cn),.one,.rp [.one,.q aI c,.q YO d,.q aE e,.one,.one,.one,.one,.one,.one],.sl 1 0 ls.length],73,1⟩
abbrev XB (c:List ax) (d:List (List Int)) (e:List aH):List AV:=[.one,.q aI c,.q YO d,.q aE e,.one,.one,.one,.one,.one,.one]
abbrev EM (ls:List Lk) (c:List ax) (d:List (List Int)) (e:List aH) (f:List (List Int)) (cn:Int):Nat→aK:=(ah (ah (cA (fam 59 5 ls)) 0 (.live ⟨[.one,.q aI c,.q YO d,.q aE e,.q YO f,.one,.one,.one,.i cn,.one,.rp (XB c d e),.sl 1 0 ls.length],73,1⟩)) 1 (.live (EL ls)))
theorem R1 (c:List ax) (d:List (List Int)) (e:List aH) (f:List (List Int)) (cn:Int) (ls:List Lk) (r g:Int) (hll:ls.length≤16) (hro:f.length≤65536) (hr:eo f r=true) (hnf:(bL (fun x:Lk=>decide (x.route=r)) ls)<0):fi Tryz.prog 31 (fN (MD c d e f cn ls) (EL ls) (fam 59 5 ls)) [.pt 0 0,.v (.int .i64 r),.v (.int .i64 g)] (.v (.int .i64 8)) (fp (.live (MD c d e f cn ls)) (.live (EL ls)) (fam 59 5 ls) []):=by
 refine jx (N:=32) Tryz.func31 rfl rfl (b_ rfl) (by simp) (fun w0 G C bJ gX=>?_);refine aj (mV ?_);refine ak (aB (aj (mP ?_)));refine mV ?_;refine oG (eA (nO f r oo) rfl rfl rfl rfl rfl nV lT ?_);refine oG (er rfl rfl rfl rfl ?_);refine rU (upd (upd (upd (upd (upd none_ 0 (.pt 0 0)) 1 (.i r)) 2 (.i g)) 6 (.i 0)) 11 (.b (!(eo f r)))) (EM ls c d e f cn) ?_;refine cD (fun hc0=>?_) fun hc0=>?_
 ·skip;have hf1:=gF hc0;exfalso;rw [hr] at hc0;cases hc0
 have hf2:=gG hc0;refine aR (aj (mP ?_));refine mV ?_;refine oG (nE (vK c d e f cn ls r hll hnf) rfl rfl rfl rfl rfl qh rfl rfl (by repeat (first|exact fb|apply fo rfl)) rfl (by exact bF) (jT (fun k_ h_=>by have:=dI h_;omega)) (dv om) bF (nP (a:=.v (.pointer none))) ?_);refine mV ?_;refine rU (upd (upd (upd (upd none_ 0 (.pt 0 0)) 2 (.i g)) 6 (.i 0)) 7 (.v (.pointer none))) (EM ls c d e f cn) ?_;refine aB (aj (mV ?_));refine oG (sR rfl rfl rfl qi rfl rfl (.inl ⟨rfl,rfl⟩) ?_);refine ak (eh true rfl rfl (fun _=>?_) (fun h=>by cases h));refine aj (mV ?_);refine ak (cy ⟨(upd none_ 6 (.i 8)),(EM ls c d e f cn)⟩ ?_ ?_)
 ·skip;exact iF [(0,0),(1,1)] [((0,0),.live _),((1,1),.live _)] (by repeat (first|exact fb|apply fo rfl)) (dv om) ⟨b8 rfl ca bF,eS rfl (by decide) rfl rfl (fun k_ h_=>by have:=dI h_;omega),trivial⟩ (.inr ⟨rfl,by simp,by simp⟩)
 exact aV (i6 rfl rfl rfl)
abbrev ME (b:List ax) (c:List (List Int)) (d:List aH) (a:List (List Int)) (cn:Int) (ls:List Lk):ay:=⟨[.one,.q aI b,.q YO c,.q aE d,.q YO a,.one,.one,.one,.v (.int .i64 cn),.one,.rp [.one,.q aI b,.q YO c,.q aE d,.one,.one,.one,.one,.one,.one],.sl 1 0 ls.length],73,1⟩
theorem Tg (b:List ax) (c:List (List Int)) (d:List aH) (a:List (List Int)) (cn:Int) (ls:List Lk) (r e:Int) (f:ls.length≤16) (g:a.length≤65536) (hnc:0≤e∧e≤1000000000) (hcn:0≤cn∧cn≤65536) (hen:∀x,x∈ls→ -1≤x.ends):fi Tryz.prog 31 (fN (ME b c d a cn ls) ⟨(enc b5 (br ls.length)),91,1⟩ (fam 59 5 ls)) [.pt 0 0,.v (.int .i64 r),.v (.int .i64 e)] (.v (.int .i64 (gy a ls r))) (fp (.live (ME b c d a cn ls)) (.live ⟨(enc b5 (br ls.length)),91,1⟩) (fam 59 5 (fS a ls r (e+cn))) []):=by
 by_cases he:gy a ls r=0
 ·obtain ⟨h1,h2⟩:=Ti he;rw [he, ←Qs hen he];exact S3 b c d a cn ls r e g h1 f hnc hcn h2
 ·rw [A6 (x:=gy a ls r) he rfl];rcases Tj he with ⟨h0,h1⟩|⟨h0,h1,h2⟩
  ·rw [h0];exact R0 b c d a cn ls r e f g h1
  ·rw [h0];exact R1 b c d a cn ls r e f g h1 h2
theorem jo:YV Tryz.prog 43=some true:=by kernel_rfl
theorem r4:bO Tryz.prog 15=true:=by kernel_rfl
theorem Cq:bO Tryz.prog 16=true:=by kernel_rfl
theorem Cr:bO Tryz.prog 23=true:=by kernel_rfl
theorem Kk:bO Tryz.prog 26=true:=by kernel_rfl
theorem xc:bO Tryz.prog 27=true:=by kernel_rfl
theorem Kl:bO Tryz.prog 28=true:=by kernel_rfl
theorem WN:bO Tryz.prog 30=true:=by kernel_rfl
theorem WO:bO Tryz.prog 31=true:=by kernel_rfl
theorem Km:bO Tryz.prog 32=true:=by kernel_rfl
theorem WQ:bO Tryz.prog 33=true:=by kernel_rfl
theorem wn:dD Tryz.prog 43 0=some (5,0):=by kernel_rfl
theorem wo:dD Tryz.prog 43 1=some (5,1):=by kernel_rfl
theorem wq:dD Tryz.prog 43 2=some (5,2):=by kernel_rfl
theorem Kn:(Tryz.prog.info? 76).map (fun i=>(i.zero,i.size))=some (some (.agg #[(.int .i64 0),(.bool false),(.slice none 0 0)]),3):=by kernel_rfl
theorem Ko:(Tryz.prog.info? 78).map (fun i=>(i.zero,i.size))=some (some (.agg #[(.int .i64 0),(.bool false),(.slice none 0 0)]),3):=by kernel_rfl
theorem Kp:placesOf Tryz.prog 76=some ((.agg #[(.int .i64 0),(.bool false),(.slice none 0 0)]),fun i=>([(0,1),(1,1),(2,1)]:List (Nat×Nat)).toArray[i]?):=by kernel_rfl
theorem Kq:placesOf Tryz.prog 78=some ((.agg #[(.int .i64 0),(.bool false),(.slice none 0 0)]),fun i=>([(0,1),(1,1),(2,1)]:List (Nat×Nat)).toArray[i]?):=by kernel_rfl
abbrev XC (x:Act) (c:List ax):AV:=(.q eI (cI x c.length x.sp.length))
abbrev yK (ls:List Lk):ay:=⟨(enc b5 (br ls.length)),91,1⟩
abbrev EN (ls:List Lk) (g:Int):Nat→AV:=(upd (upd (upd (upd (upd none_ 1 (.pt 0 0)) 2 (.q aQ ls)) 4 (.i g)) 5 (.pt 61 0)) 8 (.pt 62 0))
abbrev XD (c:List ax) (d:List aH) (e:List (List Int)) (ls:List Lk) (x:Act):AV:=(.q aQ (ke c d e ls (x.n % ((e.length:Int)+1)) (x.tr % 4) (cd x c.length) [⟨1,false,(cI x c.length x.sp.length)⟩] (cr x d.length)))
abbrev MF (c:List ax) (f:List (List Int)) (d:List aH) (e:List (List Int)) (cn:Int) (ls:List Lk):ay:=⟨[.one,.q aI c,.q YO f,.q aE d,.q YO e,.one,.one,.one,.v (.int .i64 cn),.one,.rp [.one,.q aI c,.q YO f,.q aE d,.one,.one,.one,.one,.one,.one],.sl 1 0 ls.length],73,1⟩
abbrev EO (x:Act) (d:List aH) (c:List ax) (e:List (List Int)) (ls:List Lk):List AV:=[.q eB (cr x d.length),.i (dV c d e ls (x.n % ((e.length:Int)+1)) (cd x c.length) [⟨1,false,(cI x c.length x.sp.length)⟩] (cr x d.length))]
abbrev yL (x:Act) (c:List ax):List AV:=[.i 1,.b false,.q eI (cI x c.length x.sp.length)]
abbrev MG (c:List ax) (d:List aH) (e:List (List Int)) (ls:List Lk) (x:Act):List AV:=[.q aQ (ke c d e ls (x.n % ((e.length:Int)+1)) (x.tr % 4) (cd x c.length) [⟨1,false,(cI x c.length x.sp.length)⟩] (cr x d.length)),.q eB (iG c d e ls (x.n % ((e.length:Int)+1)) (cd x c.length) [⟨1,false,(cI x c.length x.sp.length)⟩] (cr x d.length)),.i (dV c d e ls (x.n % ((e.length:Int)+1)) (cd x c.length) [⟨1,false,(cI x c.length x.sp.length)⟩] (cr x d.length))]
abbrev l8 (c:List ax) (f:List (List Int)) (d:List aH) (e:List (List Int)) (a5 a6 a7 cn a9:Int):List AV:=[.one,.q aI c,.q YO f,.q aE d,.q YO e,.i a5,.i a6,.i a7,.i cn,.i a9]
abbrev uY (ls:List Lk) (g:Int) (x:Act) (e:List (List Int)):Nat→AV:=(upd (upd (upd (EN ls g) 10 vN) 11 (.b false)) 12 (.i (x.n % ((e.length:Int)+1))))
abbrev XE (c:List ax) (f:List (List Int)) (d:List aH):List AV:=[.one,.q aI c,.q YO f,.q aE d,.one,.one,.one,.one,.one,.one]
abbrev nr (x:Act):List AV:=[.v (.int .u8 x.dw),.v (.int .u8 x.n),.v (.int .u8 x.tr),.q aC x.bE,.q aC x.ow,.q eB x.rt,.q aC x.sp,.v (.int .u8 x.tk)]
abbrev MH (c:List ax) (f:List (List Int)) (d:List aH) (e:List (List Int)) (cn:Int) (ls:List Lk):ay:=⟨[.one,.q aI c,.q YO f,.q aE d,.q YO e,.one,.one,.one,.i cn,.one,.rp (XE c f d),.sl 1 0 ls.length],73,1⟩
abbrev qU (ls:List Lk) (c:List ax) (f:List (List Int)) (d:List aH) (e:List (List Int)) (cn a5 a6 a7 a9:Int) (x:Act):Nat→aK:=(ah (ah (ah (ah (cA (fam 59 5 ls)) 0 (.live (MH c f d e cn ls))) 1 (.live (yK ls))) 61 (.live ⟨(l8 c f d e a5 a6 a7 cn a9),35,1⟩)) 62 (.live ⟨(nr x),43,1⟩))
theorem Qt (c:List ax) (f:List (List Int)) (d:List aH) (e:List (List Int)) (cn:Int) (ls:List Lk) (x:Act) (g a5 a6 a7 a9:Int) (hll:ls.length≤16) (hs:c.length≤65536) (hs1:1≤c.length) (hp:d.length≤65536) (hpa:f.length≤65536) (hpp:∀x,x∈f→x.length≤65536) (l:e.length≤65536) (hlk:∀x,x∈ls→gn e x) (hlr:∀x,x∈ls→kj e x) (m:∀x,x∈e→2≤x.length∧x.length≤9) (p:∀x,x∈e→∀s,s∈x→0≤s∧s<(c.length:Int)) (hwho:∀s,e8 e ls s=fw e ls s) (mq:eE c d e ls=gW c d e ls) (hen:∀x,x∈ls→ -1≤x.ends) (hx:mo x) (hsp:x.sp.length≤6) (hnc:0≤g∧g≤1000000000) (hcn:0≤cn∧cn≤65536) (hpo:∀s:Int,0≤s→s<(c.length:Int)→0≤dl f s∧dl f s<(f.length:Int)) (hdw:x.dw % 4=0∨x.dw % 4=1) (j:¬dV c d e ls (x.n % ((e.length:Int)+1)) (cd x c.length) [⟨1,false,(cI x c.length x.sp.length)⟩] (cr x d.length)=0):fi Tryz.prog 11 (fN (MF c f d e cn ls) (yK ls) (fam 59 5 ls)) [.agg [.one,.q aI c,.q YO f,.q aE d,.q YO e,.v (.int .i64 a5),.v (.int .i64 a6),.v (.int .i64 a7),.v (.int .i64 cn),.v (.int .i64 a9)],.pt 0 0,.q aQ ls,.agg [.v (.int .u8 x.dw),.v (.int .u8 x.n),.v (.int .u8 x.tr),.q aC x.bE,.q aC x.ow,.q eB x.rt,.q aC x.sp,.v (.int .u8 x.tk)],.v (.int .i64 g)] (.bw [.q aQ ls,.v (.bool true)]) (fp (.live (MF c f d e cn ls)) (.live (yK ls)) (fam 59 5 ls) []):=by
 have hx1:=hx.dw;have hx2:=hx.n;have hx3:=hx.tr;have hx4:=hx.tk;have hx5:=hx.l1;have hx6:=hx.l2;have hx7:=hx.l3;have pm:=hx.l4;have hnn:0≤(x.n % ((e.length:Int)+1))∧(x.n % ((e.length:Int)+1))≤(e.length:Int):=by have:=Int.emod_nonneg x.n (show ((e.length:Int)+1)≠0 by omega);have:=Int.emod_lt_of_pos x.n (show 0<(e.length:Int)+1 by omega);omega
 have t1:∀x,x∈e→∀s,s∈x→0≤s:=fun x h s h2=>(p x h s h2).1;have t3:∀x,x∈e→1≤x.length∧x.length≤65536:=fun x h=>by have:=m x h;omega
 have hvl:(cI x c.length x.sp.length).length=x.sp.length:=s9 (Nat.le_refl _);have hvw:∀v:View,v∈([⟨1,false,(cI x c.length x.sp.length)⟩]:List View)→v.span.length≤65536:=fun v h=>by rw [List.mem_singleton.1 h];show (cI x c.length x.sp.length).length≤_;omega
 have ql:=s7 (x:=x) (k:=c.length);have t4:=s8 (x:=x) (k:=f.length);have qm:(cr x d.length).length≤65536:=Nat.le_trans (wt x d.length) hp;refine jx (N:=127) Tryz.func11 rfl rfl (iY rfl) (by simp) (fun w0 G C bJ gX=>?_);refine aj (oG (qW 61 ?_));refine oG (qW 62 ?_);refine mV ?_;refine mV ?_;refine rU (upd (upd (EN ls g) 10 vN) 11 (.b false)) (qU ls c f d e cn a5 a6 a7 a9 x) ?_;refine aj (fG (.pt 62 1) wo cR ?_);refine oV dB ?_;refine oG (gR rfl rfl rfl iU gm rfl (IntWalk.i64_in _ om) ?_);refine fG (.pt 61 4) ib eG ?_;refine oO fQ ?_;refine oG (qN e4 ?_);refine oG (qB (.int .i64 ((e.length+1:Nat):Int)) (addN om) ?_);refine oG (ez (u:=(.int .i64 (x.n % ((e.length:Int)+1)))) rfl rfl rfl rfl rfl (by show _≠_;omega) ((f5 om).trans (by rfl)) ?_);refine mV ?_;refine rU (uY ls g x e) (qU ls c f d e cn a5 a6 a7 a9 x) ?_;refine aB (aj (fG (.pt 62 0) wn cR ?_));refine oV dB ?_;refine oG (ez (u:=(.int .u8 (x.dw % 4))) rfl rfl rfl rfl rfl (by show _≠_;decide) (f5 om) ?_);refine ak (bf (aB (aj (bB ?_))));refine mV ?_;refine rU (upd (upd (uY ls g x e) 33 (.v (.int .u8 (x.dw % 4)))) 34 (.b ((x.dw % 4)==0))) (qU ls c f d e cn a5 a6 a7 a9 x) ?_;refine jl ⟨(upd (upd (uY ls g x e) 33 (.v (.int .u8 (x.dw % 4)))) 34 (.b true)),(qU ls c f d e cn a5 a6 a7 a9 x)⟩ (fun s h=>h) ?_ ?_
 ·skip;refine cD (fun hc0=>?_) fun hc0=>?_
  ·skip;have hf1:=(beq_iff_eq).1 hc0;refine aR ?_;show ck _ _ _;exact iF [(0,0),(1,1),(61,61),(62,62)] [((0,0),.live _),((1,1),.live _),((61,61),.live _),((62,62),.live _)] (by repeat (first|exact fb|apply fo rfl)) (dv om) ⟨b8 rfl ca bF,eS rfl (by decide) rfl rfl (fun k_ h_=>by have:=dI h_;omega),aP rfl rfl,aP rfl rfl,trivial⟩ (.inr ⟨rfl,by simp,by simp⟩) (he:=(sS (by exact congrArg (fun g_=>AV.v (.bool g_)) (by simp_all)) (sS rfl (sS rfl (sS rfl (sS rfl (sM rfl (sM rfl (sS rfl (sS rfl (sM rfl bQ)))))))))))
  have hf2:=(beq_eq_false_iff_ne).1 hc0;refine bm (bB ?_);refine mV ?_;refine ak ?_;show ck _ _ _;exact iF [(0,0),(1,1),(61,61),(62,62)] [((0,0),.live _),((1,1),.live _),((61,61),.live _),((62,62),.live _)] (by repeat (first|exact fb|apply fo rfl)) (dv om) ⟨b8 rfl ca bF,eS rfl (by decide) rfl rfl (fun k_ h_=>by have:=dI h_;omega),aP rfl rfl,aP rfl rfl,trivial⟩ (.inr ⟨rfl,by simp,by simp⟩) (he:=(sS (by exact congrArg (fun g_=>AV.v (.bool g_)) (by simp_all)) (sS rfl (sS rfl (sS rfl (sS rfl (sM rfl (sM rfl (sS rfl (sS rfl (sM rfl bQ)))))))))))
 refine eh true rfl rfl (fun _=>?_) (fun h=>by cases h);refine aj (oG (ZI (l8 c f d e a5 a6 a7 cn a9) du cC ?_));refine oG (ZI (nr x) jo gA ?_);refine oG (qC (Hp c x hs hx hs1 hsp) Kk ?_);refine mO ?_;refine rU (upd (uY ls g x e) 13 (XC x c)) (qU ls c f d e cn a5 a6 a7 a9 x) ?_;refine aj (mO ?_);refine oG (qD Kp ?_);refine oG (Y8 rfl rfl rfl wZ Kn (by decide) (by decide) rfl rfl ?_);refine mO ?_;refine oG (qD Kq ?_);refine oG (Y8 rfl rfl rfl w_ Ko (by decide) (by decide) rfl rfl ?_);refine mO ?_;refine mO ?_;refine rU (upd (upd (uY ls g x e) 14 (.ro 1 (yL x c))) 15 (.ro 1 (yL x c))) (qU ls c f d e cn a5 a6 a7 a9 x) ?_;refine aB (aD 18 [(16,.q eB (cr x d.length)),(62,.i (dV c d e ls (x.n % ((e.length:Int)+1)) (cd x c.length) [⟨1,false,(cI x c.length x.sp.length)⟩] (cr x d.length))),(61,.q eB (cr x d.length)),(46,.bw (EO x d c e ls)),(60,.bw (EO x d c e ls)),(59,.q eB (cr x d.length)),(58,.agg (nr x)),(57,.agg (l8 c f d e a5 a6 a7 cn a9)),(56,.ro 1 (yL x c)),(55,.q aC (cd x c.length)),(54,.agg (nr x)),(53,.agg (l8 c f d e a5 a6 a7 cn a9)),(52,.i (x.tr % 4)),(51,.v (.int .u8 (x.tr % 4))),(50,.v (.int .u8 x.tr)),(49,.pt 62 2),(48,.i (x.n % ((e.length:Int)+1))),(47,.pt 0 0)] mixed ?_ ?_)
 ·iterate 18 (refine ⟨?_,?_⟩;rotate_left)
  trivial
  ·exact aM
  ·exact aM
  ·exact sF (.pt 62 0) (.pt 62 2) wq cR
  ·exact sL dB
  ·exact dW 51 fun st ap hE=>ez (u:=(.int .u8 (x.tr % 4))) rfl rfl rfl (hE 50 rfl) rfl (by show _≠_;decide) (f5 om) (by rw [ap];rfl)
  ·exact dW 52 fun st ap hE=>gR rfl rfl rfl iU gm (hE 51 rfl) (IntWalk.i64_in _ om) (by rw [ap];rfl)
  ·exact ed (l8 c f d e a5 a6 a7 cn a9) du cC
  ·exact ed (nr x) jo gA
  ·exact sC (rf c x hs hx) r4
  ·exact aM
  ·exact ed (l8 c f d e a5 a6 a7 cn a9) du cC
  ·exact ed (nr x) jo gA
  ·exact sC (vo d x hp hx) xc
  ·exact dW 60 fun st ap hE=>nE (Tf c f d e cn ls (x.n % ((e.length:Int)+1)) (x.tr % 4) (cd x c.length) [⟨1,false,(cI x c.length x.sp.length)⟩] (cr x d.length) hll hs hp l om (by simp) hvw qm m t1 hlk hwho mq j) rfl rfl rfl rfl rfl Cq (by rw [ap];rfl) (by rw [ap];rfl) (by rw [ap];repeat (first|exact fb|apply fo rfl)) (by show [st.env 47,st.env 48,st.env 52,st.env 55,st.env 56,st.env 59]++_=_;rw [hE 47 rfl,hE 48 rfl,hE 52 rfl,hE 55 rfl,hE 56 rfl,hE 59 rfl];rfl) (by exact bF) (jT (fun k_ h_=>by have:=dI h_;omega)) (dv om) bF (nP (a:=.bw (EO x d c e ls))) (by rw [ap];rfl)
  ·exact aM
  ·exact fL
  ·exact fL
  exact aM
 refine mV ?_;refine ak (aB (aD 21 [(19,.q eB (iG c d e ls (x.n % ((e.length:Int)+1)) (cd x c.length) [⟨1,false,(cI x c.length x.sp.length)⟩] (cr x d.length))),(18,.q aQ (ke c d e ls (x.n % ((e.length:Int)+1)) (x.tr % 4) (cd x c.length) [⟨1,false,(cI x c.length x.sp.length)⟩] (cr x d.length))),(81,.i (dV c d e ls (x.n % ((e.length:Int)+1)) (cd x c.length) [⟨1,false,(cI x c.length x.sp.length)⟩] (cr x d.length))),(80,.q eB (iG c d e ls (x.n % ((e.length:Int)+1)) (cd x c.length) [⟨1,false,(cI x c.length x.sp.length)⟩] (cr x d.length))),(79,.q aQ (ke c d e ls (x.n % ((e.length:Int)+1)) (x.tr % 4) (cd x c.length) [⟨1,false,(cI x c.length x.sp.length)⟩] (cr x d.length))),(63,.bw (MG c d e ls x)),(78,.bw (MG c d e ls x)),(77,.q eB (cr x d.length)),(76,.agg (nr x)),(75,.agg (l8 c f d e a5 a6 a7 cn a9)),(74,.ro 1 (yL x c)),(73,.q aC (cd x c.length)),(72,.agg (nr x)),(71,.agg (l8 c f d e a5 a6 a7 cn a9)),(70,.i (x.tr % 4)),(69,.v (.int .u8 (x.tr % 4))),(68,.v (.int .u8 x.tr)),(67,.pt 62 2),(66,.i (x.n % ((e.length:Int)+1))),(65,.q aQ ls),(64,.agg (l8 c f d e a5 a6 a7 cn a9))] mixed ?_ ?_))
 ·iterate 21 (refine ⟨?_,?_⟩;rotate_left)
  trivial
  ·exact ed (l8 c f d e a5 a6 a7 cn a9) du cC
  ·exact aM
  ·exact aM
  ·exact sF (.pt 62 0) (.pt 62 2) wq cR
  ·exact sL dB
  ·exact dW 69 fun st ap hE=>ez (u:=(.int .u8 (x.tr % 4))) rfl rfl rfl (hE 68 rfl) rfl (by show _≠_;decide) (f5 om) (by rw [ap];rfl)
  ·exact dW 70 fun st ap hE=>gR rfl rfl rfl iU gm (hE 69 rfl) (IntWalk.i64_in _ om) (by rw [ap];rfl)
  ·exact ed (l8 c f d e a5 a6 a7 cn a9) du cC
  ·exact ed (nr x) jo gA
  ·exact sC (rf c x hs hx) r4
  ·exact aM
  ·exact ed (l8 c f d e a5 a6 a7 cn a9) du cC
  ·exact ed (nr x) jo gA
  ·exact sC (vo d x hp hx) xc
  ·exact sC (HX c d e ls (x.n % ((e.length:Int)+1)) (x.tr % 4) (cd x c.length) [⟨1,false,(cI x c.length x.sp.length)⟩] (cr x d.length) hs hp l om hlr t3 p om (by simp) hvw qm) Kl
  ·exact aM
  ·exact fL
  ·exact fL
  ·exact fL
  ·exact aM
  exact aM
 refine mV ?_;refine ak (aj (mO ?_));refine mV ?_;refine mV ?_;refine bB ?_;refine mV ?_;refine dA 4 90 (.b (((dV c d e ls (x.n % ((e.length:Int)+1)) (cd x c.length) [⟨1,false,(cI x c.length x.sp.length)⟩] (cr x d.length))==(dV c d e ls (x.n % ((e.length:Int)+1)) (cd x c.length) [⟨1,false,(cI x c.length x.sp.length)⟩] (cr x d.length)))&&(decide ((cr x d.length)=(iG c d e ls (x.n % ((e.length:Int)+1)) (cd x c.length) [⟨1,false,(cI x c.length x.sp.length)⟩] (cr x d.length)))))) ?_ ?_
 ·refine (Bool.eq_false_or_eq_true ((dV c d e ls (x.n % ((e.length:Int)+1)) (cd x c.length) [⟨1,false,(cI x c.length x.sp.length)⟩] (cr x d.length))==(dV c d e ls (x.n % ((e.length:Int)+1)) (cd x c.length) [⟨1,false,(cI x c.length x.sp.length)⟩] (cr x d.length)))).elim (fun hg3=>?_) (fun hg3=>?_)
  ·skip;have eb:=(beq_iff_eq).1 hg3;refine oY hg3 (qM (.q eB (cr x d.length)) ?_);refine oY hg3 (qM (.q eB (iG c d e ls (x.n % ((e.length:Int)+1)) (cd x c.length) [⟨1,false,(cI x c.length x.sp.length)⟩] (cr x d.length))) ?_);refine oY hg3 (qJ (vt (cr x d.length) (iG c d e ls (x.n % ((e.length:Int)+1)) (cd x c.length) [⟨1,false,(cI x c.length x.sp.length)⟩] (cr x d.length)) oo) xa ?_);refine oG (qP ((dV c d e ls (x.n % ((e.length:Int)+1)) (cd x c.length) [⟨1,false,(cI x c.length x.sp.length)⟩] (cr x d.length))==(dV c d e ls (x.n % ((e.length:Int)+1)) (cd x c.length) [⟨1,false,(cI x c.length x.sp.length)⟩] (cr x d.length))) (.b (decide ((cr x d.length)=(iG c d e ls (x.n % ((e.length:Int)+1)) (cd x c.length) [⟨1,false,(cI x c.length x.sp.length)⟩] (cr x d.length))))) hg3 ?_);exact ak (bS (bR 90 _ _ (by rw [hg3]<;>rfl) lO))
  have g0:=(beq_eq_false_iff_ne).1 hg3;refine nG hg3 ?_;refine nG hg3 ?_;refine nG hg3 ?_;refine oG (qP ((dV c d e ls (x.n % ((e.length:Int)+1)) (cd x c.length) [⟨1,false,(cI x c.length x.sp.length)⟩] (cr x d.length))==(dV c d e ls (x.n % ((e.length:Int)+1)) (cd x c.length) [⟨1,false,(cI x c.length x.sp.length)⟩] (cr x d.length))) (.b false) hg3 ?_);exact ak (bS (bR 90 _ _ (by rw [hg3]<;>rfl) lO))
 refine mO ?_;refine mV ?_;refine ak (rT (upd (upd (EN ls g) 10 (XD c d e ls x)) 11 (.b (((dV c d e ls (x.n % ((e.length:Int)+1)) (cd x c.length) [⟨1,false,(cI x c.length x.sp.length)⟩] (cr x d.length))==(dV c d e ls (x.n % ((e.length:Int)+1)) (cd x c.length) [⟨1,false,(cI x c.length x.sp.length)⟩] (cr x d.length)))&&(decide ((cr x d.length)=(iG c d e ls (x.n % ((e.length:Int)+1)) (cd x c.length) [⟨1,false,(cI x c.length x.sp.length)⟩] (cr x d.length))))))) (qU ls c f d e cn a5 a6 a7 a9 x) ?_);refine cy ⟨(upd (upd none_ 10 (.q aQ ls)) 11 (.b true)),(ah (ah (cA (fam 59 5 ls)) 0 (.live (MH c f d e cn ls))) 1 (.live (yK ls)))⟩ ?_ ?_
 ·skip;exact iF [(0,0),(1,1)] [((0,0),.live _),((1,1),.live _)] (by repeat (first|exact fb|apply fo rfl)) (dv om) ⟨b8 rfl ca bF,eS rfl (by decide) rfl rfl (fun k_ h_=>by have:=dI h_;omega),trivial⟩ (.inr ⟨rfl,by simp,by simp⟩) (he:=(sS (congrArg (fun g_:Bool=>AV.v (.bool g_)) (XF (mX (tr:=(x.tr % 4)) j rfl).2)) (sS (congrArg (fun l_:List Lk=>AV.q aQ l_) (mX (tr:=(x.tr % 4)) j rfl).1) bQ)))
 exact aV (i6 rfl rfl rfl)
end Go.Lo