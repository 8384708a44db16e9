/- Walks of Go functions in the logic of values: what the law reaches. -/
import Derived.Test.YtdeajfldegcdaaaGreatPFnAp1

set_option linter.unusedVariables false
set_option linter.unusedSimpArgs false
set_option maxRecDepth 10000
set_option maxHeartbeats 16000000
namespace Go.Lo
open Go.Proofs
abbrev nY (c d e g j m r jn:Int) (rs:List (List Int)):List AV:=[.v (.int .u8 c),.v (.int .u8 d),.v (.int .u8 e),.v (.int .u16 g),.v (.int .u16 j),.v (.int .u8 m),.v (.int .u8 r),.v (.int .u8 jn),.q eUL rs]
abbrev p7 (c d jn:Int) (rs:List (List Int)) (k:Nat) (e g j m r:Int):aC:=⟨[.one,.q aN (VI c d),.q O5 (V8 c jn),.q aJ (bE c),.sl 55 0 (((dh (VI c d) (bE c) rs k)++[(kQ (VI c d) (bE c) (((rs.getD k []).getD 0 0) % ((VI c d).length:Int)) (((rs.getD k []).getD 0 0) / 128) ((rs.getD k []).drop 2) (2+(((rs.getD k []).getD 1 0) % 5)):(List Int))]).length),.i (1+e % (2*(10*(1+d % 20)))),.i (1+g % 1000),.i (1+j % 1000),.i (1+m),.i (r % 4)],35,1⟩
abbrev p8 (k:Nat):Nat→AV:=(upd (upd (upd (upd none_ 1 (.pt 2 0)) 2 (.pt 3 0)) 3 (.pt 1 0)) 4 (.i (k:Int)))
abbrev Dr (c d:Int) (rs:List (List Int)) (k:Nat):AV:=(.q eI (kQ (VI c d) (bE c) (((rs.getD k []).getD 0 0) % ((VI c d).length:Int)) (((rs.getD k []).getD 0 0) / 128) ((rs.getD k []).drop 2) (2+(((rs.getD k []).getD 1 0) % 5))))
abbrev kh (c d jn:Int) (rs:List (List Int)) (k:Nat) (e g j m r:Int):List AV:=[.one,.q aN (VI c d),.q O5 (V8 c jn),.q aJ (bE c),.sl 4 0 ((dh (VI c d) (bE c) rs k).length),.i (1+e % (2*(10*(1+d % 20)))),.i (1+g % 1000),.i (1+j % 1000),.i (1+m),.i (r % 4)]
abbrev p9 (c d jn:Int) (rs:List (List Int)) (k:Nat) (e g j m r:Int):Nat→aH:=(U4 (U4 (U4 (U4 U5 1 (.live ⟨(kh c d jn rs k e g j m r),35,1⟩)) 2 (.live ⟨(nY c d e g j m r jn rs),25,1⟩)) 3 (.live ⟨[vN,vN,vN,vN,vN,.i 0,.i 0,.i 0,.i 0,.i 0],35,1⟩)) 4 (.live ⟨(enc O5 (dh (VI c d) (bE c) rs k)),57,1⟩))
theorem G_ (c d e g j m r jn:Int) (rs:List (List Int)) (hf:0≤c∧c≤255) (hl:0≤d∧d≤255) (hs:0≤e∧e≤255) (hm:0≤g∧g≤65535) (hw:0≤j∧j≤65535) (hc:0≤m∧m≤255) (hy:0≤r∧r≤255) (hj:0≤jn∧jn≤255) (hn:rs.length≤65536) (hx:∀x,x∈rs→x.length≤65536∧∀y,y∈x→0≤y∧y≤255):Fn Tryz.prog 9 [.agg [.v (.int .u8 c),.v (.int .u8 d),.v (.int .u8 e),.v (.int .u16 g),.v (.int .u16 j),.v (.int .u8 m),.v (.int .u8 r),.v (.int .u8 jn),.ro rs.length (enc eUL rs)]] (.agg [.one,.ro ((VI c d).length) (enc aN (VI c d)),.ro ((V8 c jn).length) (enc O5 (V8 c jn)),.ro ((bE c).length) (enc aJ (bE c)),.ro ((aas c d rs).length) (enc O5 (aas c d rs)),.v (.int .i64 (1+e % (2*(10*(1+d % 20))))),.v (.int .i64 (1+g % 1000)),.v (.int .i64 (1+j % 1000)),.v (.int .i64 (1+m)),.v (.int .i64 (r % 4))]):=by
 have hel:=ni c;have hsl:=qO c d;have hpl:=qV c;refine tX (N:=63) Tryz.func9 rfl rfl (by simp) (fun w0 X Pk=>?_);refine aj (oG (qW 51 ?_));refine oG (WW 52 rfl rfl rfl rfl nS rfl ?_);refine ak (aj (oG (cZ (nY c d e g j m r jn rs) wb wc ?_)));refine oG (qC (zV c d e g j m r jn oo oo oo oo oo oo oo oo) Cn ?_);refine oG (WW 53 rfl rfl rfl rfl nS rfl ?_);refine oG (qS dj ?_);refine rU (upd (upd (upd none_ 1 (.pt 51 0)) 2 (.pt 52 0)) 3 (.pt 53 0)) (U4 (U4 (U4 (U4 U5 51 (.live ⟨(nY c d e g j m r jn rs),25,1⟩)) 52 (.live ⟨[vN,vN,vN,vN,vN,.i 0,.i 0,.i 0,.i 0,.i 0],35,1⟩)) 53 (.live ⟨[vN,vN,vN,vN,vN,.i 0,.i 0,.i 0,.i 0,.i 0],35,1⟩)) 53 (.live ⟨[.one,.q aN (VI c d),.q O5 (V8 c jn),.q aJ (bE c),vN,.i (1+e % (2*(10*(1+d % 20)))),.i (1+g % 1000),.i (1+j % 1000),.i (1+m),.i (r % 4)],35,1⟩)) ?_;refine aF (aj (mV ?_));refine ak (bf (cB (fun k=>⟨(p8 k),(p9 c d jn rs k e g j m r)⟩) (fun k=>True) (rs.length) ?_ trivial (fun k c9 hinv=>?_)))
 ·skip;refine (qK 53 4 54 57 1 rfl rfl rfl rfl).trans ?_;exact iL [(53,1),(51,2),(52,3),(54,4)] [((53,1),.live _),((51,2),.live _),((52,3),.live _),((54,4),.live _)] ⟨Vr rfl Vs bN,U9 rfl rfl,U9 rfl rfl,U9 (o:=⟨[],57,1⟩) rfl rfl,trivial⟩
 have OQ:=yY (VI c d) (bE c) rs k;refine aF (aj (mV ?_));refine fG (.pt 2 8) o8 pI ?_;refine oO pH ?_;refine oG (qN pJ ?_);refine bB ?_;refine mV ?_;refine Wi 5 19 (.b ((decide ((k:Int)<(rs.length:Int)))&&(decide (((dh (VI c d) (bE c) rs k).length:Int)<16)))) ?_ ?_
 ·refine (Bool.eq_false_or_eq_true (decide ((k:Int)<(rs.length:Int)))).elim (fun hg1=>?_) (fun hg1=>?_)
  ·skip;have hf2:=of_decide_eq_true hg1;refine oY hg1 (qF (.pt 1 0) (.pt 1 4) jb eQ ?_);refine oY hg1 (qL (.sl 4 0 ((dh (VI c d) (bE c) rs k).length)) gF ?_);refine oY hg1 (dU rfl rfl rfl rfl fj (eF rfl) ?_);refine oY hg1 (qB (.bool (decide (((dh (VI c d) (bE c) rs k).length:Int)<16))) rfl ?_);refine oG (qP (decide ((k:Int)<(rs.length:Int))) (.b (decide (((dh (VI c d) (bE c) rs k).length:Int)<16))) hg1 ?_);exact ak (Vy (Vx 19 _ _ (by rw [hg1]<;>rfl) lO))
  have hf3:=of_decide_eq_false hg1;refine nG hg1 ?_;refine nG hg1 ?_;refine nG hg1 ?_;refine nG hg1 ?_;refine oG (qP (decide ((k:Int)<(rs.length:Int))) (.b false) hg1 ?_);exact ak (Vy (Vx 19 _ _ (by rw [hg1]<;>rfl) lO))
 refine ak (rT (upd (p8 k) 19 (.b ((decide ((k:Int)<(rs.length:Int)))&&(decide (((dh (VI c d) (bE c) rs k).length:Int)<16))))) (p9 c d jn rs k e g j m r) ?_);refine cD (fun hc0=>?_) fun hc0=>?_
 ·skip;obtain ⟨pK,pL⟩:=gY hc0;have iy:=of_decide_eq_true pK;have fk:=of_decide_eq_true pL;have hkr:k<rs.length:=by simp at hc0;omega
  have L3:(dh (VI c d) (bE c) rs k).length<16:=by simp at hc0;omega
  have hxk:=hx _ (VR [] hkr);refine aX (aF (bf (aj (fG (.pt 2 8) o8 pI ?_))));refine oO pH ?_;refine mV ?_;refine oG (qX [] pJ eR ?_);refine oO ei ?_;refine mO ?_;refine rU (upd (p8 k) 5 (.q aI (rs.getD k []))) (p9 c d jn rs k e g j m r) ?_;refine aF (aj (mO ?_));refine oG (qN cA ?_);refine bB ?_;refine ak (cD (fun hc1=>?_) fun hc1=>?_)
  ·skip;have gJ:=of_decide_eq_true hc1;refine VJ (bn (mV ?_));refine oG (qB (.int .i64 ((k+1:Nat):Int)) (addN om) ?_);refine mV ?_;refine ak ?_;show _∧_;have hs_:=yM (secs:=(VI c d)) (pts:=(bE c)) (rs:=rs) (k:=k) (.inl (by simp at hc1;omega));refine ⟨by omega,trivial,?_⟩;exact iL [(1,1),(2,2),(3,3),(4,4)] [((1,1),.live _),((2,2),.live _),((3,3),.live _),((4,4),.live _)] ⟨Vr (o:=⟨(kh c d jn rs k e g j m r),35,1⟩) rfl (by (try simp only [nY,p7,kh]);rw [hs_];exact Vs) bN,U9 rfl rfl,U9 rfl rfl,U9 rfl (by exact congrArg (fun l_=>aC.mk (enc O5 l_) 57 1) hs_),trivial⟩
  have iU:=of_decide_eq_false hc1;have hx2:¬(rs.getD k []).length<2:=by simp at hc1;omega
  have hx0:=hxk.2 _ (VR (l:=(rs.getD k [])) (k:=0) 0 om);have hx1:=hxk.2 _ (VR (l:=(rs.getD k [])) (k:=1) 0 om);have hxd:∀y,y∈(rs.getD k []).drop 2→0≤y∧y≤255:=fun y hy=>hxk.2 y (List.mem_of_mem_drop hy);have hmd:=Cm (a:=(rs.getD k []).getD 0 0) (b:=((VI c d).length:Int)) om;refine aX (aF (Vd 23 [(52,.q eI (kQ (VI c d) (bE c) (((rs.getD k []).getD 0 0) % ((VI c d).length:Int)) (((rs.getD k []).getD 0 0) / 128) ((rs.getD k []).drop 2) (2+(((rs.getD k []).getD 1 0) % 5)))),(51,.i (2+(((rs.getD k []).getD 1 0) % 5))),(50,.i (((rs.getD k []).getD 1 0) % 5)),(49,.v (.int .u8 (((rs.getD k []).getD 1 0) % 5))),(48,.v (.int .u8 ((rs.getD k []).getD 1 0))),(47,.rp (([.v (.int .u8 ((rs.getD k []).getD 1 0))]:List AV)++((enc aI (rs.getD k [])).drop ((1+1)*1)))),(46,.q aI (rs.getD k [])),(45,.q aI ((rs.getD k []).drop 2)),(44,.q aI (rs.getD k [])),(43,.i (((rs.getD k []).getD 0 0) / 128)),(42,.v (.int .u8 (((rs.getD k []).getD 0 0) / 128))),(41,.v (.int .u8 ((rs.getD k []).getD 0 0))),(40,.rp (([.v (.int .u8 ((rs.getD k []).getD 0 0))]:List AV)++((enc aI (rs.getD k [])).drop ((0+1)*1)))),(39,.q aI (rs.getD k [])),(38,.i (((rs.getD k []).getD 0 0) % ((VI c d).length:Int))),(37,.i ((VI c d).length:Int)),(36,.q aN (VI c d)),(35,.pt 1 1),(34,.i ((rs.getD k []).getD 0 0)),(33,.v (.int .u8 ((rs.getD k []).getD 0 0))),(32,.rp (([.v (.int .u8 ((rs.getD k []).getD 0 0))]:List AV)++((enc aI (rs.getD k [])).drop ((0+1)*1)))),(31,.q aI (rs.getD k [])),(30,.agg (kh c d jn rs k e g j m r))] mixed ?_ ?_))
  ·iterate 23 (refine ⟨?_,?_⟩;rotate_left)
   trivial
   ·exact Ys (kh c d jn rs k e g j m r) fi dj
   ·exact aY
   ·exact dW 32 fun st au hE=>aaw (k:=0) 0 rfl rfl rfl cA c7 (hE 31 rfl) rfl (fun _=>rfl) rfl oo (by rw [au];rfl)
   ·exact (V3 Pn)
   ·exact dW 34 fun st au hE=>XG rfl rfl rfl iT fm (hE 33 rfl) (IntWalk.i64_in _ om) (by rw [au];rfl)
   ·exact sF (.pt 1 0) (.pt 1 1) ib hH
   ·exact sL PH
   ·exact dW 37 fun st au hE=>dU rfl rfl rfl rfl ip (o9 (hE 36 rfl)) (by rw [au];rfl)
   ·exact dW 38 fun st au hE=>WC (u:=(.int .i64 (((rs.getD k []).getD 0 0) % ((VI c d).length:Int)))) rfl rfl rfl (hE 34 rfl) (hE 37 rfl) (by show _≠_;omega) (fV om) (by rw [au];rfl)
   ·exact aY
   ·exact dW 40 fun st au hE=>aaw (k:=0) 0 rfl rfl rfl cA c7 (hE 39 rfl) rfl (fun _=>rfl) rfl oo (by rw [au];rfl)
   ·exact (V3 Pn)
   ·exact dW 42 fun st au hE=>WC (u:=(.int .u8 (((rs.getD k []).getD 0 0) / 128))) rfl rfl rfl (hE 41 rfl) rfl (by show _≠_;decide) (BF om) (by rw [au];rfl)
   ·exact dW 43 fun st au hE=>XG rfl rfl rfl iT fm (hE 42 rfl) (IntWalk.i64_in _ om) (by rw [au];rfl)
   ·exact aY
   ·exact dW 45 fun st au hE=>ZG (l:=2) (hgh:=((rs.getD k []).length)) (cells':=enc aI ((rs.getD k []).drop 2)) (((rs.getD k []).drop 2)).length rfl rfl rfl cA c7 (hE 44 rfl) ⟨_,rfl⟩ rfl oo oo (Pt (f:=aI) (fun _=>rfl) _ _ _ rfl) qG (by rw [au];rfl)
   ·exact aY
   ·exact dW 47 fun st au hE=>aaw (k:=1) 0 rfl rfl rfl cA c7 (hE 46 rfl) rfl (fun _=>rfl) rfl oo (by rw [au];rfl)
   ·exact (V3 Pn)
   ·exact dW 49 fun st au hE=>WC (u:=(.int .u8 (((rs.getD k []).getD 1 0) % 5))) rfl rfl rfl (hE 48 rfl) rfl (by show _≠_;decide) (fV om) (by rw [au];rfl)
   ·exact dW 50 fun st au hE=>XG rfl rfl rfl iT fm (hE 49 rfl) (IntWalk.i64_in _ om) (by rw [au];rfl)
   ·exact sB (.int .i64 (2+(((rs.getD k []).getD 1 0) % 5))) (XO om)
   exact sC (G3 (VI c d) (bE c) _ _ ((rs.getD k []).drop 2) (2+(rs.getD k []).getD 1 0 % 5) om om (by rw [List.length_drop];omega) om hxd) L2
  refine mO ?_;refine ak (rT (upd (upd (p8 k) 5 (.q aI (rs.getD k []))) 6 (Dr c d rs k)) (p9 c d jn rs k e g j m r) ?_);refine aj (mO ?_);refine oG (qN cC ?_);refine bB ?_;refine ak (cD (fun hc2=>?_) fun hc2=>?_)
  ·skip;have mL:=of_decide_eq_true hc2;have hwl:=agi (VI c d) (bE c) ((rs.getD k []).getD 0 0 % ((VI c d).length:Int)) ((rs.getD k []).getD 0 0 / 128) ((rs.getD k []).drop 2) (2+(rs.getD k []).getD 1 0 % 5);refine bn (fG (.pt 1 4) jb eQ ?_);refine oG (qL (.sl 4 0 ((dh (VI c d) (bE c) rs k).length)) gF ?_);refine mO ?_;refine oG (V_ rfl rfl rfl fj r9 (by decide) (by decide) rfl rfl ?_);refine oG (gU (f:=O5) (l:=dh (VI c d) (bE c) rs k) 55 (kQ (VI c d) (bE c) (((rs.getD k []).getD 0 0) % ((VI c d).length:Int)) (((rs.getD k []).getD 0 0) / 128) ((rs.getD k []).drop 2) (2+(((rs.getD k []).getD 1 0) % 5)):(List Int)) rfl rfl rfl rfl fj v6 rfl (by decide) rfl rfl rfl rfl rfl rfl (fun _=>rfl) rfl rfl oo oo rfl ?_);refine fG (.pt 1 4) jb eQ ?_;refine oG (qS eQ ?_);refine ak (rT (upd (upd (p8 k) 5 (.q aI (rs.getD k []))) 6 (Dr c d rs k)) (U4 (U4 (U4 (p9 c d jn rs k e g j m r) 4 .dead) 55 (.live ⟨(enc O5 ((dh (VI c d) (bE c) rs k)++[(kQ (VI c d) (bE c) (((rs.getD k []).getD 0 0) % ((VI c d).length:Int)) (((rs.getD k []).getD 0 0) / 128) ((rs.getD k []).drop 2) (2+(((rs.getD k []).getD 1 0) % 5)):(List Int))])),57,1⟩)) 1 (.live (p7 c d jn rs k e g j m r))) ?_);refine bn (mV ?_);refine oG (qB (.int .i64 ((k+1:Nat):Int)) (addN om) ?_);refine mV ?_;refine ak ?_;show _∧_;have hs_:=Fg (secs:=(VI c d)) (pts:=(bE c)) (rs:=rs) (k:=k) L3 hx2 (by unfold aax;simp at hc2;omega);refine ⟨by omega,trivial,?_⟩;exact iL [(1,1),(2,2),(3,3),(55,4)] [((1,1),.live _),((2,2),.live _),((3,3),.live _),((55,4),.live _)] ⟨Vr (o:=(p7 c d jn rs k e g j m r)) rfl (by (try simp only [nY,p7,kh]);rw [hs_];exact Vs) bN,U9 rfl rfl,U9 rfl rfl,U9 rfl (by exact congrArg (fun l_=>aC.mk (enc O5 l_) 57 1) hs_),trivial⟩
  have lK:=of_decide_eq_false hc2;refine aX (bn (mV ?_));refine oG (qB (.int .i64 ((k+1:Nat):Int)) (addN om) ?_);refine mV ?_;refine ak ?_;show _∧_;have hs_:=yM (secs:=(VI c d)) (pts:=(bE c)) (rs:=rs) (k:=k) (.inr (by unfold aax;simp at hc2;omega));refine ⟨by omega,trivial,?_⟩;exact iL [(1,1),(2,2),(3,3),(4,4)] [((1,1),.live _),((2,2),.live _),((3,3),.live _),((4,4),.live _)] ⟨Vr (o:=⟨(kh c d jn rs k e g j m r),35,1⟩) rfl (by (try simp only [nY,p7,kh]);rw [hs_];exact Vs) bN,U9 rfl rfl,U9 rfl rfl,U9 rfl (by exact congrArg (fun l_=>aC.mk (enc O5 l_) 57 1) hs_),trivial⟩
 have hex:(dh (VI c d) (bE c) rs k).length≥16∨rs.length≤k:=(Nat.lt_or_ge k rs.length).elim (fun h=>.inl (by simp [h] at hc0;omega)) .inr;refine VJ (aj (oG (cZ (kh c d jn rs k e g j m r) fi dj ?_)));refine oG (qS dj ?_);refine ak (VA _ ((jJ [3] [(3,⟨[.one,.q aN (VI c d),.q O5 (V8 c jn),.q aJ (bE c),.q O5 (dh (VI c d) (bE c) rs k),.i (1+e % (2*(10*(1+d % 20)))),.i (1+g % 1000),.i (1+j % 1000),.i (1+m),.i (r % 4)],35,1⟩)] rfl (fun _ h=>h) ⟨Xr (cs:=(kh c d jn rs k e g j m r)) (by simp) rfl rfl (gq (.inl rfl) (gq (.inl rfl) (gq (.inl rfl) (gq (.inl rfl) (gq (.inr (W8 (id:=4) (n:=(dh (VI c d) (bE c) rs k).length) (o:=⟨(enc O5 (dh (VI c d) (bE c) rs k)),57,1⟩) rfl (WH (fun _=>rfl) (by first|rfl|(simp;done))))) XD))))),trivial⟩ (VP 2 (.pt 3 0) rfl jA))) ?_);exact aZ (BK (p:=2) rfl rfl fi dj rfl rfl (Nat.le_of_ble_eq_true rfl) rfl (by rw [←ai7 (k:=k) om hex];rfl))
theorem vI:V0 Tryz.prog 118=some true:=by kernel_rfl
theorem BL:V0 Tryz.prog 125=some false:=by kernel_rfl
theorem BM:Vp Tryz.prog 105=true:=by kernel_rfl
theorem BN:Vp Tryz.prog 106=true:=by kernel_rfl
theorem Kx:Vp Tryz.prog 107=true:=by kernel_rfl
theorem BO:Vp Tryz.prog 108=true:=by kernel_rfl
theorem BP:Vp Tryz.prog 109=true:=by kernel_rfl
theorem Ky:Vp Tryz.prog 110=true:=by kernel_rfl
theorem rO:Vp Tryz.prog 111=true:=by kernel_rfl
theorem BQ:Vp Tryz.prog 112=true:=by kernel_rfl
theorem Kz:Vp Tryz.prog 113=true:=by kernel_rfl
theorem KA:Vp Tryz.prog 114=true:=by kernel_rfl
theorem KB:Vp Tryz.prog 115=true:=by kernel_rfl
theorem Co:Vp Tryz.prog 68=true:=by kernel_rfl
theorem Cp:Vp Tryz.prog 96=true:=by kernel_rfl
theorem mf:VZ Tryz.prog 129 0=some (35,0):=by kernel_rfl
theorem KC:(Tryz.prog.info? 125).map (fun i=>(i.zero,i.size))=some (some (.slice none 0 0),1):=by kernel_rfl
theorem BR:(Tryz.prog.info? 125).map (·.size)=some 1:=by kernel_rfl
theorem pq:Tryz.prog.underlying 184=some (.slice 125):=by kernel_rfl
theorem wd:Tryz.prog.underlying 69=some (.pointer 129):=by kernel_rfl
theorem vJ:(Tryz.prog.info? 118).bind (·.zero)=some (.agg #[(.int .i64 0),(.int .i64 0),(.int .i64 0)]):=by kernel_rfl
abbrev Ds (c:List aD):AV:=(.rp [.q aN c,.one,.one,.one,.one,.one,.one,.one,.one])
abbrev w9:aC:=⟨[.i 0,.i 0,.i 0],118,1⟩
abbrev sP (c:List aD) (s:Int):List AV:=[.i ((c.getD s.toNat dS).len),.i ((c.getD s.toNat dS).a),.i ((c.getD s.toNat dS).b)]
abbrev lV (c:List aD):AV:=(.rp [.one,.q aN c,.one,.one,.one,.one,.one,.one,.one,.one])
theorem zA (c:List aD) (s:Int) (hs:c.length≤65536):Fn Tryz.prog 112 [.rp [.one,.ro c.length (enc aN c),.one,.one,.one,.one,.one,.one,.one,.one],.v (.int .i64 s)] (.Vm [.agg [.v (.int .i64 ((Xa c s).len)),.v (.int .i64 ((Xa c s).a)),.v (.int .i64 ((Xa c s).b))],.v (.bool (!dL c s))]):=by
 refine tX (N:=31) Tryz.func112 rfl rfl (by simp) (fun w0 X Pk=>?_);refine aj (oG (WW 51 rfl rfl rfl rfl vJ rfl ?_));refine mV ?_;refine ak (aF (aj (mR ?_)));refine oG (PI rfl rfl rfl wd rfl rfl rfl (.inl ⟨rfl,rfl⟩) ?_);refine mV ?_;refine ZO rfl rfl rfl rfl (eD (av:=.i s) (.inl rfl) rfl rfl rfl ?_);refine ZO rfl rfl rfl rfl (WC (u:=(.bool (decide (s<0)))) rfl rfl rfl rfl rfl trivial rfl ?_);refine oG (fF (b:=false) (av:=.b (decide (s<0))) rfl rfl rfl rfl rfl ?_);refine mV ?_;refine Wi 9 21 (.b ((decide (s<0))||(decide (s≥(c.length:Int))))) ?_ ?_
 ·refine (Bool.eq_false_or_eq_true (decide (s<0))).elim (fun hg1=>?_) (fun hg1=>?_)
  ·skip;have hf2:=of_decide_eq_true hg1;refine nG hg1 ?_;refine nG hg1 ?_;refine nG hg1 ?_;refine nG hg1 ?_;refine nG hg1 ?_;refine nG hg1 ?_;refine nG hg1 ?_;refine nG hg1 ?_;refine oG (qP (decide (s<0)) (.b true) hg1 ?_);exact ak (Vy (Vx 21 _ _ (by rw [hg1]<;>rfl) lO))
  have hf3:=of_decide_eq_false hg1;refine oY hg1 (qM (.i s) ?_);refine oY hg1 (qM (lV c) ?_);refine oY hg1 (VV rfl rfl rfl rfl rfl ?_);refine oY hg1 (qF (lV c) (lV c) mf dj ?_);refine oY hg1 (qF (lV c) (Ds c) ib hH ?_);refine oY hg1 (qL (.q aN c) PH ?_);refine oY hg1 (qN ip ?_);refine oY hg1 (qB (.bool (decide (s≥(c.length:Int)))) rfl ?_);refine oG (qP (decide (s<0)) (.b (decide (s≥(c.length:Int)))) hg1 ?_);exact ak (Vy (Vx 21 _ _ (by rw [hg1]<;>rfl) lO))
 refine ak (rT (upd (upd (upd (upd (upd none_ 0 (lV c)) 1 (.i s)) 4 (.pt 51 0)) 5 (.b false)) 21 (.b ((decide (s<0))||(decide (s≥(c.length:Int)))))) (U4 U5 51 (.live w9)) ?_);refine cD (fun hc0=>?_) fun hc0=>?_
 ·skip;have hn:dL c s=true:=hc0;refine aj (oG (qD BB ?_));refine oG (qS Py ?_);refine mV ?_;refine ak (VA _ ((jJ [51] [(51,w9)] rfl (fun _ h=>h) ⟨Xr (cs:=[.i 0,.i 0,.i 0]) (by simp) rfl rfl XD,trivial⟩ (VP 5 (.b false) rfl (VP 4 (.pt 51 0) rfl jA)))) ?_);exact aZ (A_ (p:=4) (q:=5) rfl rfl vI Py rfl rfl (Nat.le_of_ble_eq_true rfl) rfl rfl rfl (by rw [aj7 hn,hn];rfl))
 obtain ⟨pK,pL⟩:=XB hc0;have iy:=of_decide_eq_false pK;have fk:=of_decide_eq_false pL;have hn:dL c s=false:=hc0;have hb:=aer hn;refine aX (aj (mR ?_));refine oG (VV rfl rfl rfl rfl rfl ?_);refine oG (qF (lV c) (lV c) mf dj ?_);refine oG (qF (lV c) (Ds c) ib hH ?_);refine oO PH ?_;refine mV ?_;refine oG (Wo dS rfl rfl rfl ip Py rfl rfl (fun _=>rfl) rfl om oo ?_);refine oG (cZ (sP c s) vI Py ?_);refine oG (qS Py ?_);refine mV ?_;refine rU (upd (upd none_ 4 (.pt 51 0)) 5 (.b true)) (U4 (U4 U5 51 (.live w9)) 51 (.live ⟨(sP c s),118,1⟩)) ?_;refine VA _ ((jJ [51] [(51,⟨(sP c s),118,1⟩)] rfl (fun _ h=>h) ⟨Xr (cs:=(sP c s)) (by simp) rfl rfl XD,trivial⟩ (VP 5 (.b true) rfl (VP 4 (.pt 51 0) rfl jA)))) ?_;exact aZ (A_ (p:=4) (q:=5) rfl rfl vI Py rfl rfl (Nat.le_of_ble_eq_true rfl) rfl rfl rfl (by rw [adf hn,hn];rfl))
abbrev sQ (s e:Int) (c:List aD):Nat→aH:=(U4 (U4 (U4 U5 51 (.live ⟨[.i s,.i e],124,1⟩)) 52 (.live ⟨[.i 0,.i 0,.i 0],118,1⟩)) 52 (.live ⟨[.i ((Xa c s).len),.i ((Xa c s).a),.i ((Xa c s).b)],118,1⟩))
theorem Ba (c:List aD) (s e:Int) (hs:c.length≤65536):Fn Tryz.prog 105 [.rp [.one,.q aN c,.one,.one,.one,.one,.one,.one,.one,.one],.agg [.v (.int .i64 s),.v (.int .i64 e)]] (.Vm [.v (.int .i64 (U6 c s e)),.v (.bool (!dD c s e))]):=by
 refine bL (N:=33) Tryz.func105 rfl rfl (Yp rfl) (by simp) (fun w0 X Pk=>?_);refine aj (oG (qW 51 ?_));refine mV ?_;refine mV ?_;refine ak (aj (mR ?_));refine fG (.pt 51 0) gv bu ?_;refine oV bq ?_;refine oG (qJ (zA c s oo) BQ ?_);refine mG (.Vm [.agg [.i ((Xa c s).len),.i ((Xa c s).a),.i ((Xa c s).b)],.b (!dL c s)]) ?_;refine oG (qE ?_);refine oG (qE ?_);refine oG (WW 52 rfl rfl rfl rfl vJ rfl ?_);refine oG (qS Py ?_);refine mV ?_;refine rU (upd (upd (upd (upd (upd none_ 3 (.pt 51 0)) 4 (.i 0)) 5 (.b false)) 6 (.pt 52 0)) 7 (.b (!dL c s))) (sQ s e c) ?_;refine aF (bf (aj (mV ?_)));refine mV ?_;refine Wi 4 21 (.b ((!dL c s)&&(e==0))) ?_ ?_
 ·refine (Bool.eq_false_or_eq_true (!dL c s)).elim (fun hg1=>?_) (fun hg1=>?_)
  ·skip;refine oY hg1 (qF (.pt 51 0) (.pt 51 1) md bu ?_);refine oY hg1 (qL (.i e) bq ?_);refine oY hg1 (qB (.bool (e==0)) rfl ?_);refine oG (qP (!dL c s) (.b (e==0)) hg1 ?_);exact ak (Vy (Vx 21 _ _ (by rw [hg1]<;>rfl) lO))
  refine nG hg1 ?_;refine nG hg1 ?_;refine nG hg1 ?_;refine oG (qP (!dL c s) (.b false) hg1 ?_);exact ak (Vy (Vx 21 _ _ (by rw [hg1]<;>rfl) lO))
 refine mV ?_;refine ak (cD (fun hc0=>?_) fun hc0=>?_)
 ·skip;obtain ⟨Ou,L4⟩:=gY hc0;have hf3:=(beq_iff_eq).1 L4;have hq:dL c s=false∧e=0:=by simpa using hc0
  have hn:=Jq hq.1 hq.2;refine aj (fG (.pt 52 1) rc bu ?_);refine oV bq ?_;refine mV ?_;refine mV ?_;refine rU (upd (upd none_ 4 (.i ((Xa c s).a))) 5 (.b true)) (sQ s e c) ?_;exact aZ (bg (av:=.Vm [.v (.int .i64 ((Xa c s).a)),.v (.bool true)]) rfl rfl (by rw [hn.1,hn.2];rfl))
 have hq:¬(dL c s=false∧e=0):=by simpa using hc0
 refine aj (mV ?_);refine mV ?_;refine Wi 4 30 (.b ((!dL c s)&&(e==1))) ?_ ?_
 ·refine (Bool.eq_false_or_eq_true (!dL c s)).elim (fun hg4=>?_) (fun hg4=>?_)
  ·skip;refine oY hg4 (qF (.pt 51 0) (.pt 51 1) md bu ?_);refine oY hg4 (qL (.i e) bq ?_);refine oY hg4 (qB (.bool (e==1)) rfl ?_);refine oG (qP (!dL c s) (.b (e==1)) hg4 ?_);exact ak (Vy (Vx 30 _ _ (by rw [hg4]<;>rfl) lO))
  refine nG hg4 ?_;refine nG hg4 ?_;refine nG hg4 ?_;refine oG (qP (!dL c s) (.b false) hg4 ?_);exact ak (Vy (Vx 30 _ _ (by rw [hg4]<;>rfl) lO))
 refine mV ?_;refine ak (rT (upd (upd (upd (upd none_ 4 (.i 0)) 5 (.b false)) 6 (.pt 52 0)) 24 (.b ((!dL c s)&&(e==1)))) (sQ s e c) ?_);refine cD (fun hc1=>?_) fun hc1=>?_
 ·skip;obtain ⟨g0,gE⟩:=gY hc1;have fk:=(beq_iff_eq).1 gE;have hq1:dL c s=false∧e=1:=by simpa using hc1
  have hn:=Jr hq1.1 hq1.2;refine aj (fG (.pt 52 2) oT bu ?_);refine oV bq ?_;refine mV ?_;refine mV ?_;refine rU (upd (upd none_ 4 (.i ((Xa c s).b))) 5 (.b true)) (sQ s e c) ?_;exact aZ (bg (av:=.Vm [.v (.int .i64 ((Xa c s).b)),.v (.bool true)]) rfl rfl (by rw [hn.1,hn.2];rfl))
 have hq1:¬(dL c s=false∧e=1):=by simpa using hc1
 have hn:=H6 (secs:=c) (s:=s) (e:=e) (by cases h:dL c s with|true=>exact .inl rfl|false=>exact .inr ⟨fun x=>hq ⟨h,x⟩,fun x=>hq1 ⟨h,x⟩⟩);refine aX (aj (mV ?_));refine mV ?_;exact ak (aZ (bg (av:=.Vm [.v (.int .i64 0),.v (.bool false)]) rfl rfl (by rw [hn.1,hn.2];rfl)))
theorem Ha (x n:Int):Fn Tryz.prog 114 [.agg [.v (.int .i64 x),.one,.one,.one],.rp [.v (.int .i64 n)]] (.v (.bool (decide (x=n)))):=by
 refine bL (N:=8) Tryz.func114 rfl rfl (bM rfl) (by simp) (fun w0 X Pk=>?_);refine aj (oG (qW 51 ?_));refine mV ?_;refine ak (aj (fG (.pt 51 0) A7 bu ?_));refine oV bq ?_;refine oV bq ?_;refine bB ?_;refine mV ?_;refine rU (upd none_ 3 (.b (x==n))) (U4 U5 51 (.live ⟨[.i x,.one,.one,.one],54,1⟩)) ?_;exact aZ (bg (av:=.v (.bool (x==n))) rfl rfl (by rfl))
abbrev w_ (a:List aP) (n:Int):Nat→AV:=(upd (upd (upd none_ 0 (.q aJ a)) 1 (.fn 114 [.rp [.i n]])) 4 (.i 0))
theorem L5 (a:List aP) (n:Int) (hp:a.length≤65536):Fn Tryz.prog 113 [.q aJ a,.fn 114 [.rp [.v (.int .i64 n)]]] (.v (.int .i64 (aV a n))):=by
 refine bL (N:=19) Tryz.func113 rfl rfl (bM rfl) (by simp) (fun w0 X Pk=>?_);refine aj (mV ?_);refine ak (aF (aj (mO ?_)));refine oG (qN gb ?_);refine mV ?_;refine rU (upd (upd (w_ a n) 7 (.i (a.length:Int))) 8 (.i 0)) U5 ?_;refine bf (cB (fun k=>⟨(upd (upd (w_ a n) 7 (.i (a.length:Int))) 8 (.i (k:Int))),U5⟩) (fun k=>(a.take k).any (fun p=>decide (p.node=n))=false) (a.length) ?_ (by simp) (fun k c9 hinv=>?_))
 ·skip;exact iN
 refine aj (bB ?_);refine ak (aF (cD (fun hc0=>?_) fun hc0=>?_))
 ·skip;have hf1:=of_decide_eq_true hc0;refine aX (aF (bf (aj (mV ?_))));refine mV ?_;refine ak (aj (mG (.fn 114 [.rp [.i n]]) ?_));refine mO ?_;refine mV ?_;refine oG (qX dP gb im ?_);refine oG (cZ [.i ((a.getD k dP).node),.i ((a.getD k dP).stem),.i ((a.getD k dP).left),.i ((a.getD k dP).right)] v2 im ?_);refine oG (qC (Ha ((a.getD k dP).node) n) KA ?_);refine rU (upd (upd (upd (upd (w_ a n) 5 (.i (k:Int))) 7 (.i (a.length:Int))) 8 (.i (k:Int))) 16 (.b (decide (((a.getD k dP).node)=n)))) U5 ?_;refine cD (fun hc1=>?_) fun hc1=>?_
  ·skip;refine aj (mV ?_);refine mV ?_;exact ak (aZ (bg (av:=.v (.int .i64 (k:Int))) rfl rfl (by unfold aV;rw [fO dP om hinv hc1]<;>rfl)))
  refine aX (bn (oG (qB (.int .i64 ((k+1:Nat):Int)) (addN om) ?_)));refine mV ?_;refine ak ?_;show _∧_;refine ⟨by omega,(fQ dP om hinv hc1),?_⟩;exact iN
 have hf2:=of_decide_eq_false hc0;refine VJ (aj (mV ?_));exact ak (aZ (bg (av:=.v (.int .i64 (-1))) rfl rfl (by unfold aV;rw [X2 om hinv]<;>rfl)))
abbrev sR (a:List aP):AV:=(.rp [.one,.one,.one,.q aJ a,.one,.one,.one,.one,.one,.one])
theorem Aw (a:List aP) (n:Int) (hp:a.length≤65536):Fn Tryz.prog 106 [.rp [.one,.one,.one,.q aJ a,.one,.one,.one,.one,.one,.one],.v (.int .i64 n)] (.v (.int .i64 (aV a n))):=by
 refine bL (N:=14) Tryz.func106 rfl rfl (bM rfl) (by simp) (fun w0 X Pk=>?_);refine aj (oG (qW 51 ?_));refine mV ?_;refine ak (aF (aj (mR ?_)));refine oG (PI rfl rfl rfl wd rfl rfl rfl (.inl ⟨rfl,rfl⟩) ?_);refine rU (upd (upd (upd (upd none_ 0 (sR a)) 3 (.pt 51 0)) 4 (.i 0)) 6 (.b false)) (U4 U5 51 (.live ⟨[.i n],3,1⟩)) ?_;refine eP false rfl rfl (fun h=>by cases h) (fun _=>?_);refine aX (aj (mR ?_));refine oG (VV rfl rfl rfl rfl rfl ?_);refine oG (qF (sR a) (sR a) mf dj ?_);refine oG (qF (sR a) (.rp [.q aJ a,.one,.one,.one,.one,.one,.one]) gA fI ?_);refine oO il ?_;refine oG (kC (caps:=[.tmp 3]) rfl rfl rfl rfl ?_);refine oG (f_ (L5 a n hp) rfl rfl rfl rfl rfl Kz (Vb (dF (av:=.q aJ a)) (Vb (kH lT) fP)) ?_);refine mV ?_;refine rU (upd none_ 4 (.i (aV a n))) (U4 U5 51 (.live ⟨[.i n],3,1⟩)) ?_;exact aZ (bg (av:=.v (.int .i64 (aV a n))) rfl rfl rfl)
abbrev xa (c:List aD) (n:Int) (k j:Nat):Nat→aH:=(U4 U5 1 (.live ⟨(enc Vl (Pq c n k j)),124,2⟩))
abbrev Dt (c:List aD) (k:Nat):List AV:=[.i ((Xa c (k:Int)).len),.i ((Xa c (k:Int)).a),.i ((Xa c (k:Int)).b)]
abbrev NC (c:List aD):AV:=(.rp [.one,.q aN c,.one,.one,.one,.one,.one,.one,.one,.one])
abbrev xb (k j:Nat):En:=(⟨(k:Int),(j:Int)⟩:En)
abbrev p_ (c:List aD) (k:Nat):List AV:=[.i ((Xa c (k:Int)).a),.i ((Xa c (k:Int)).b)]
abbrev xc (c:List aD) (n:Int) (k:Nat):Nat→aH:=(U4 (U4 (U4 U5 1 (.live ⟨(enc Vl (Wg c n k)),124,2⟩)) 52 (.live ⟨[.i 0,.i 0,.i 0],118,1⟩)) 52 (.live ⟨(Dt c k),118,1⟩))
abbrev O8 (c:List aD) (n:Int):Nat→AV:=(upd (upd none_ 0 (NC c)) 1 (.i n))
abbrev Du (c:List aD) (n:Int) (k j:Nat):Nat→AV:=(upd (upd (upd (upd (O8 c n) 4 vN) 5 (.sl 1 0 ((Pq c n k j).length))) 6 (.i (k:Int))) 8 (.b (!dL c (k:Int))))
abbrev xd (c:List aD) (n:Int) (k:Nat):Nat→AV:=(upd (upd (upd (O8 c n) 4 vN) 5 (.sl 1 0 ((Wg c n k).length))) 6 (.i (k:Int)))
theorem Bb (c:List aD) (n:Int) (hs:c.length≤65536):Yr Tryz.prog 108 [.rp [.one,.q aN c,.one,.one,.one,.one,.one,.one,.one,.one],.v (.int .i64 n)] (.sl 0 0 ((bK c n).length)) [⟨(enc Vl (bK c n)),124,2⟩]:=by
 refine bL (N:=41) Tryz.func108 rfl rfl (bM rfl) (by simp) (fun w0 X Pk=>?_);refine aj (mV ?_);refine ak (aj (mV ?_));refine ak (aj (mV ?_));refine ak (bf (cB (fun k=>⟨(xd c n k),(U4 U5 1 (.live ⟨(enc Vl (Wg c n k)),124,2⟩))⟩) (fun k=>k≤c.length) (c.length+1) ?_ (Nat.zero_le _) (fun k c9 hinv=>?_)))
 ·skip;refine (iH 5 51 124 2 rfl rfl).trans ?_;exact iI 51 1 (o:=⟨[],124,2⟩) rfl
 have hle:=ac_ c n k;refine aF (bf (aj (mR ?_)));refine mV ?_;refine oG (qJ (zA c (k:Int) oo) BQ ?_);refine mG (.Vm [.agg (Dt c k),.b (!dL c (k:Int))]) ?_;refine oG (qE ?_);refine oG (qE ?_);refine oG (WW 52 rfl rfl rfl rfl vJ rfl ?_);refine oG (qS Py ?_);refine mV ?_;refine rU (upd (upd (xd c n k) 7 (.pt 52 0)) 8 (.b (!dL c (k:Int)))) (xc c n k) ?_;refine aF (aj (mV ?_));refine oG (gV rfl rfl rfl rfl ?_);refine ak (cD (fun hc0=>?_) fun hc0=>?_)
 ·skip;have hf1:=kP hc0;have hkn:k=c.length:=by rw [ug] at hc0;simp at hc0;omega
  refine aj (mS ?_);refine mS ?_;refine rU (upd (upd (upd (upd (upd (O8 c n) 4 (.sl 1 0 ((Wg c n k).length))) 5 (.sl 1 0 ((Wg c n k).length))) 6 (.i (k:Int))) 7 (.pt 52 0)) 8 (.b (!dL c (k:Int)))) (xc c n k) ?_;exact aZ (iK 1 rfl rfl rfl (by rw [hkn];rfl) (by rw [hkn];rfl))
 have hf2:=Xz hc0;have hkl:k<c.length:=by rw [ug] at hc0;simp at hc0;omega
 have hsv:=uy (secs:=c) hkl;refine aX (aj (fG (.pt 52 1) rc bu ?_));refine oV bq ?_;refine fG (.pt 52 2) oT bu ?_;refine oV bq ?_;refine oG (qD fU ?_);refine mV ?_;refine rU (upd (upd (upd (upd (xd c n k) 7 (.pt 52 0)) 8 (.b (!dL c (k:Int)))) 26 (.agg (p_ c k))) 27 (.i 0)) (xc c n k) ?_;refine bf (cB (fun j=>⟨(upd (upd (Du c n k j) 26 (.agg (p_ c k))) 27 (.i (j:Int))),(xa c n k j)⟩) (fun j=>j≤2) (2) ?_ (by decide) (fun j mF hinv=>?_))
 ·skip;have hz:=aez c n k;exact iI 1 1 rfl (he:=(sS rfl (sS rfl (sS rfl (sS rfl (sM (by exact congrArg (AV.sl 1 0) (congrArg List.length hz.symm)) (sS rfl (sS rfl (sS rfl b_))))))))) (WG:=(by exact congrArg (fun l_=>aC.mk (enc Vl l_) 124 2) hz))
 have hlj:=ajl c n k j;refine aj (bB ?_);refine ak (aF (cD (fun hc1=>?_) fun hc1=>?_))
 ·skip;have hf3:=of_decide_eq_true hc1;have hj2:j<2:=by omega
  refine aX (aF (bf (aj (mV ?_))));refine oG (Ga (cells:=(p_ c k)) (i:=(j:Int)) (av:=.i (j4 c k j)) rfl rfl rfl vH bq bu rfl rfl om om (H7 hkl hj2) ?_);refine mV ?_;refine mV ?_;refine rU (upd (upd (upd (upd (Du c n k j) 9 (.i (j:Int))) 10 (.i (j4 c k j))) 26 (.agg (p_ c k))) 27 (.i (j:Int))) (xa c n k j) ?_;refine aj (mV ?_);refine mV ?_;refine bB ?_;refine ak (cD (fun hc2=>?_) fun hc2=>?_)
  ·skip;have eA:=(beq_iff_eq).1 hc2;refine bn (mS ?_);refine mV ?_;refine mV ?_;refine oG (qD lF ?_);refine oG (V_ rfl rfl rfl cR Pg (by decide) (by decide) rfl rfl ?_);refine oG (gU (f:=Vl) (l:=Pq c n k j) 53 (xb k j) rfl rfl rfl rfl cR kO rfl (by decide) rfl rfl rfl rfl rfl rfl (fun _=>rfl) rfl rfl oo oo rfl ?_);refine mS ?_;refine ak (rT (upd (upd (upd (upd (upd (upd (upd (upd (O8 c n) 4 vN) 5 (.sl 53 0 (((Pq c n k j)++[(xb k j)]).length))) 6 (.i (k:Int))) 8 (.b (!dL c (k:Int)))) 9 (.i (j:Int))) 10 (.i (j4 c k j))) 26 (.agg (p_ c k))) 27 (.i (j:Int))) (U4 (U4 (xa c n k j) 1 .dead) 53 (.live ⟨(enc Vl ((Pq c n k j)++[(xb k j)])),124,2⟩)) ?_);refine bn (oG (qB (.int .i64 ((j+1:Nat):Int)) (addN om) ?_));refine mV ?_;refine ak ?_;show _∧_;have hs_:=ajy hj2 (by simpa using hc2);refine ⟨by omega,om,?_⟩;exact iI 53 1 rfl (he:=(sS rfl (sS rfl (sS rfl (sS rfl (sM (by exact congrArg (AV.sl 1 0) (congrArg List.length hs_.symm)) (sS rfl (sS rfl (sS rfl b_))))))))) (WG:=(by exact congrArg (fun l_=>aC.mk (enc Vl l_) 124 2) hs_))
  have iy:=(beq_eq_false_iff_ne).1 hc2;refine aX (bn (oG (qB (.int .i64 ((j+1:Nat):Int)) (addN om) ?_)));refine mV ?_;refine ak ?_;show _∧_;have hs_:=Gb hj2 (by simpa using hc2);refine ⟨by omega,om,?_⟩;exact iI 1 1 rfl (he:=(sS rfl (sS rfl (sS rfl (sS rfl (sM (by exact congrArg (AV.sl 1 0) (congrArg List.length hs_.symm)) (sS rfl (sS rfl (sS rfl b_))))))))) (WG:=(by exact congrArg (fun l_=>aC.mk (enc Vl l_) 124 2) hs_))
 have fk:=of_decide_eq_false hc1;refine VJ (bn (mV ?_));refine oG (qB (.int .i64 ((k+1:Nat):Int)) (addN om) ?_);refine mV ?_;refine ak ?_;show _∧_;have hs_:Pq c n k j=Wg c n (k+1):=by rw [show j=2 by omega];exact Gc c n k
 refine ⟨by omega,om,?_⟩;exact iI 1 1 rfl (he:=(sS rfl (sM (by exact congrArg (AV.sl 1 0) (congrArg List.length hs_)) (sS rfl (sS rfl (sS rfl b_)))))) (WG:=(by exact congrArg (fun l_=>aC.mk (enc Vl l_) 124 2) hs_.symm))
abbrev Dv (a:List aD) (n:Int) (k:Nat):List AV:=[.i (((bK a n).getD k dE).sec),.i (((bK a n).getD k dE).en)]
abbrev Dw (s:Int) (a:List aD) (n:Int) (k:Nat):Nat→AV:=(upd (upd (upd (upd (upd (upd none_ 1 (.i s)) 6 vN) 8 (.pt 52 0)) 11 (.sl 1 0 ((bK a n).length))) 12 (.i ((bK a n).length:Int))) 13 (.i (k:Int)))
abbrev Dx (a:List aD) (n:Int) (k:Nat):Nat→aH:=(U4 (U4 (U4 U5 1 (.live ⟨(enc Vl (bK a n)),124,2⟩)) 52 (.live ⟨[.i 0,.i 0],124,1⟩)) 52 (.live ⟨(Dv a n k),124,1⟩))
theorem sd (a:List aD) (s n:Int) (hs:a.length≤65536):Fn Tryz.prog 111 [.rp [.one,.q aN a,.one,.one,.one,.one,.one,.one,.one,.one],.v (.int .i64 s),.v (.int .i64 n)] (.q Vl (V1 a s n)):=by
 refine bL (N:=24) Tryz.func111 rfl rfl (bM rfl) (by simp) (fun w0 X Pk=>?_);refine aj (mV ?_);refine ak (aF (aj (mR ?_)));refine mV ?_;refine oG (jB 51 (Bb a n oo) rfl rfl rfl rfl rfl BO lS (.sl _ _ _ trivial) (jE jF) (iM rfl) rfl rfl ?_);refine oG (dU rfl rfl rfl rfl cR (eF rfl) ?_);refine mV ?_;refine rU (upd (upd (upd (upd (upd none_ 1 (.i s)) 6 vN) 11 (.sl 51 0 ((bK a n).length))) 12 (.i ((bK a n).length:Int))) 13 (.i 0)) (U4 U5 51 (.live ⟨(enc Vl (bK a n)),124,2⟩)) ?_;refine bf (cB (fun k=>⟨(upd (upd (upd (upd (upd none_ 1 (.i s)) 6 vN) 11 (.sl 1 0 ((bK a n).length))) 12 (.i ((bK a n).length:Int))) 13 (.i (k:Int))),(U4 U5 1 (.live ⟨(enc Vl (bK a n)),124,2⟩))⟩) (fun k=>((bK a n).take k).any (fun e=>decide (e.sec=s))=false) ((bK a n).length) ?_ (by simp) (fun k c9 hinv=>?_))
 ·skip;exact iI 51 1 rfl
 refine aj (bB ?_);refine ak (aF (cD (fun hc0=>?_) fun hc0=>?_))
 ·skip;have hf1:=of_decide_eq_true hc0;have hle:=qU a n;refine aX (aF (bf (aj (oG (iJ (k:=k) rfl rfl rfl cR db rfl rfl oo ?_)))));refine oG (uz (f:=Vl) dE rfl rfl rfl fT db rfl rfl rfl (fun _=>rfl) oo rfl ?_);refine oG (WW 52 rfl rfl rfl rfl rL rfl ?_);refine oG (qS db ?_);refine rU (Dw s a n k) (Dx a n k) ?_;refine aj (fG (.pt 52 0) gv bu ?_);refine oV bq ?_;refine mV ?_;refine bB ?_;refine rU (upd (Dw s a n k) 20 (.b ((((bK a n).getD k dE).sec)==s))) (Dx a n k) ?_;refine cD (fun hc1=>?_) fun hc1=>?_
  ·skip;have hf2:=(beq_iff_eq).1 hc1;refine aj (oG (cZ (Dv a n k) fT db ?_));refine oG (V_ rfl rfl rfl cR Pg (by decide) (by decide) rfl rfl ?_);refine mO ?_;exact ak (aZ (bg (av:=.ro 1 [.v (.int .i64 (((bK a n).getD k dE).sec)),.v (.int .i64 (((bK a n).getD k dE).en))]) rfl rfl (by unfold V1;rw [yS om hinv (by simpa using hc1)]<;>rfl)))
  have hf3:=(beq_eq_false_iff_ne).1 hc1;refine aX (bn (oG (qB (.int .i64 ((k+1:Nat):Int)) (addN om) ?_)));refine mV ?_;refine ak ?_;show _∧_;refine ⟨by omega,(fQ dE om hinv (by simpa using hc1)),?_⟩;exact iI 1 1 rfl
 have eA:=of_decide_eq_false hc0;refine VJ (aj (mV ?_));refine ak (VA _ (Wx rfl (fun _ h=>h) (dJ 6 (.ro 0 []) .nil Wy)) ?_);exact aZ (bg (av:=.ro 0 []) rfl rfl (by unfold V1;rw [yT om hinv]<;>rfl))
theorem zB (x y s e:Int):Fn Tryz.prog 109 [.agg [.v (.int .i64 x),.v (.int .i64 y)],.rp [.v (.int .i64 s),.v (.int .i64 e)]] (.v (.bool (decide (x=s∧y=e)))):=by
 refine bL (N:=7) Tryz.func109 rfl rfl (bM rfl) (by simp) (fun w0 X Pk=>?_);refine aj (oG (qW 51 ?_));refine mV ?_;refine ak (aj (oG (cZ [.i x,.i y] fT db ?_)));refine oG (cZ [.i s,.i e] fT db ?_);refine oG (zT (r:=(decide (x=s∧y=e))) rfl rfl rfl rfl rfl BA fm fm bq bq (.inl ⟨rfl,rfl⟩) ?_);refine mV ?_;refine rU (upd none_ 3 (.b (decide (x=s∧y=e)))) (U4 U5 51 (.live ⟨[.i x,.i y],124,1⟩)) ?_;exact aZ (bg (av:=.v (.bool (decide (x=s∧y=e)))) rfl rfl rfl)
abbrev xe (l:List En) (s e:Int):Nat→AV:=(upd (upd (upd none_ 0 (.q Vl l)) 1 (.fn 109 [.rp [.i s,.i e]])) 4 (.i 0))
theorem KD (l:List En) (s e:Int) (hl:l.length≤4294967296):Fn Tryz.prog 96 [.q Vl l,.fn 109 [.rp [.v (.int .i64 s),.v (.int .i64 e)]]] (.v (.int .i64 (bX (fun x:En=>decide (x.sec=s∧x.en=e)) l))):=by
 refine bL (N:=19) Tryz.func96 rfl rfl (bM rfl) (by simp) (fun w0 X Pk=>?_);refine aj (mV ?_);refine ak (aF (aj (mO ?_)));refine oG (qN cR ?_);refine mV ?_;refine rU (upd (upd (xe l s e) 7 (.i (l.length:Int))) 8 (.i 0)) U5 ?_;refine bf (cB (fun k=>⟨(upd (upd (xe l s e) 7 (.i (l.length:Int))) 8 (.i (k:Int))),U5⟩) (fun k=>(l.take k).any (fun x:En=>decide (x.sec=s∧x.en=e))=false) (l.length) ?_ (by simp) (fun k c9 hinv=>?_))
 ·skip;exact iN
 refine aj (bB ?_);refine ak (aF (cD (fun hc0=>?_) fun hc0=>?_))
 ·skip;have hf1:=of_decide_eq_true hc0;refine aX (aF (bf (aj (mV ?_))));refine mV ?_;refine ak (aj (mG (.fn 109 [.rp [.i s,.i e]]) ?_));refine mO ?_;refine mV ?_;refine oG (qX dE cR db ?_);refine oG (cZ [.i ((l.getD k dE).sec),.i ((l.getD k dE).en)] fT db ?_);refine oG (qJ (zB ((l.getD k dE).sec) ((l.getD k dE).en) s e) BP ?_);refine rU (upd (upd (upd (upd (xe l s e) 5 (.i (k:Int))) 7 (.i (l.length:Int))) 8 (.i (k:Int))) 16 (.b (decide (((l.getD k dE).sec)=s∧((l.getD k dE).en)=e)))) U5 ?_;refine cD (fun hc1=>?_) fun hc1=>?_
  ·skip;refine aj (mV ?_);refine mV ?_;exact ak (aZ (bg (av:=.v (.int .i64 (k:Int))) rfl rfl (by rw [fO (f:=fun x:En=>decide (x.sec=s∧x.en=e)) dE om hinv hc1]<;>rfl)))
  refine aX (bn (oG (qB (.int .i64 ((k+1:Nat):Int)) (addN om) ?_)));refine mV ?_;refine ak ?_;show _∧_;refine ⟨by omega,(fQ dE om hinv hc1),?_⟩;exact iN
 have hf2:=of_decide_eq_false hc0;refine VJ (aj (mV ?_));exact ak (aZ (bg (av:=.v (.int .i64 (-1))) rfl rfl (by rw [X2 (f:=fun x:En=>decide (x.sec=s∧x.en=e)) om hinv]<;>rfl)))
abbrev xf:aC:=⟨[.i 0,.i 0],124,1⟩
abbrev xg (l:List En):Nat→aH:=(U4 U5 0 (.live ⟨(enc Vl l),124,2⟩))
abbrev Ph (l:List En) (s e:Int):Nat→AV:=(upd (upd (upd none_ 0 (.sl 0 0 l.length)) 1 (.fn 109 [.rp [.i s,.i e]])) 4 vN)
theorem L6 (l:List En) (s e:Int) (hl:l.length≤4294967296):iq Tryz.prog 107 [⟨(enc Vl l),124,2⟩] [.sl 0 0 l.length,.fn 109 [.rp [.v (.int .i64 s),.v (.int .i64 e)]]] (.sl 0 0 ((VE (fun x:En=>decide (x.sec=s∧x.en=e)) l).length)) [.live ⟨(enc Vl (VE (fun x:En=>decide (x.sec=s∧x.en=e)) l++List.replicate (l.length-(VE (fun x:En=>decide (x.sec=s∧x.en=e)) l).length) dE)),124,2⟩]:=by
 refine kD (N:=42) 1 rfl Tryz.func107 rfl rfl (bM rfl) (by simp) (fun w0 G C Pk lM=>?_);refine aj (mV ?_);refine ak (aj (mS ?_));refine mG (.fn 109 [.rp [.i s,.i e]]) ?_;refine oG (f_ (KD l s e oo) rfl rfl rfl rfl rfl Cp lT ?_);refine mV ?_;refine rU (upd (Ph l s e) 5 (.i (bX (fun x:En=>decide (x.sec=s∧x.en=e)) l))) (xg l) ?_;refine aF (aj (mV ?_));refine bB ?_;refine ak (cD (fun hc0=>?_) fun hc0=>?_)
 ·skip;have hf1:=(beq_iff_eq).1 hc0;have hm0:=FE (fun x:En=>decide (x.sec=s∧x.en=e)) (any_none (fun x:En=>decide (x.sec=s∧x.en=e)) dE hf1);refine aj (mS ?_);refine mS ?_;refine rU (upd (upd (upd (upd none_ 0 (.sl 0 0 l.length)) 1 (.fn 109 [.rp [.i s,.i e]])) 4 (.sl 0 0 l.length)) 5 (.i (bX (fun x:En=>decide (x.sec=s∧x.en=e)) l))) (xg l) ?_;refine VA ⟨(upd none_ 4 (.sl 0 0 ((VE (fun x:En=>decide (x.sec=s∧x.en=e)) l).length))),(U4 U5 0 (.live ⟨(enc Vl (VE (fun x:En=>decide (x.sec=s∧x.en=e)) l++List.replicate (l.length-(VE (fun x:En=>decide (x.sec=s∧x.en=e)) l).length) dE)),124,2⟩))⟩ ?_ ?_
  ·skip;exact iL [(0,0)] [((0,0),.live _)] ⟨U9 rfl (by exact congrArg (fun l_=>aC.mk (enc Vl l_) 124 2) (by rw [hm0];simp)),trivial⟩ (he:=(sM (by exact congrArg (AV.sl 0 0) (by rw [hm0])) b_))
  exact aZ (jG rfl rfl rfl rfl)
 have hf2:=(beq_eq_false_iff_ne).1 hc0;obtain ⟨i0,hi,hlt,hpre,hdel⟩:=oC dE (show ¬bX (fun x:En=>decide (x.sec=s∧x.en=e)) l= -1 from fun e=>hf2 e);refine aX (aF (aj (mV ?_)));refine oG (qB (.int .i64 ((bX (fun x:En=>decide (x.sec=s∧x.en=e)) l)+1)) (XO om) ?_);refine mV ?_;refine rU (upd (upd (Ph l s e) 5 (.i (bX (fun x:En=>decide (x.sec=s∧x.en=e)) l))) 6 (.i ((bX (fun x:En=>decide (x.sec=s∧x.en=e)) l)+1))) (xg l) ?_;refine bf (cB (fun k=>⟨(upd (upd (Ph l s e) 5 (.i (((bG (fun x:En=>decide (x.sec=s∧x.en=e)) l (i0+1+k)).2:Nat):Int))) 6 (.i ((i0+1+k:Nat):Int))),(U4 U5 0 (.live ⟨(enc Vl ((bG (fun x:En=>decide (x.sec=s∧x.en=e)) l (i0+1+k)).1)),124,2⟩))⟩) (fun k=>True) ((l.length-(i0+1))) ?_ trivial (fun k c9 hinv=>?_))
 ·skip;have hf0:=y8 (fun x:En=>decide (x.sec=s∧x.en=e)) dE hlt hpre hdel;exact iL [(0,0)] [((0,0),.live _)] ⟨U9 rfl (by exact congrArg (fun l_=>aC.mk (enc Vl l_) 124 2) (show (bG (fun x:En=>decide (x.sec=s∧x.en=e)) l (i0+1+0)).1=l by rw [show i0+1+0=i0+1 from rfl,hf0])),trivial⟩ (he:=(sS (by exact congrArg (fun n_:Int=>AV.v (.int .i64 n_)) (show bX (fun x:En=>decide (x.sec=s∧x.en=e)) l+1=((i0+1+0:Nat):Int) by omega)) (sS (by exact congrArg (fun n_:Int=>AV.v (.int .i64 n_)) (show bX (fun x:En=>decide (x.sec=s∧x.en=e)) l=(((bG (fun x:En=>decide (x.sec=s∧x.en=e)) l (i0+1+0)).2:Nat):Int) by rw [show i0+1+0=i0+1 from rfl,hf0];exact hi)) (sS rfl (sS rfl (sM rfl b_))))))
 obtain ⟨hv1,hv2,hv3,hv4,hv5⟩:=zX (fun x:En=>decide (x.sec=s∧x.en=e)) l (i0+1+k) om;have hv6:=H8 (fun x:En=>decide (x.sec=s∧x.en=e)) dE hlt hpre hdel k om;refine aF (aj (mV ?_));refine mS ?_;refine oG (dU rfl rfl rfl rfl cR (eF rfl) ?_);refine bB ?_;refine rU (upd (upd (upd (Ph l s e) 5 (.i (((bG (fun x:En=>decide (x.sec=s∧x.en=e)) l (i0+1+k)).2:Nat):Int))) 6 (.i ((i0+1+k:Nat):Int))) 19 (.b (decide (((i0+1+k:Nat):Int)<(l.length:Int))))) (U4 U5 0 (.live ⟨(enc Vl ((bG (fun x:En=>decide (x.sec=s∧x.en=e)) l (i0+1+k)).1)),124,2⟩)) ?_;refine cD (fun hc1=>?_) fun hc1=>?_
 ·skip;have hf3:=of_decide_eq_true hc1;refine aX (aF (bf (aj (mS ?_))));refine mV ?_;refine oG (iJ (k:=i0+1+k) rfl rfl rfl cR db rfl rfl oo ?_);refine oG (uz (f:=Vl) dE rfl rfl rfl fT db rfl rfl rfl (fun _=>rfl) oo rfl ?_);refine oG (WW 51 rfl rfl rfl rfl rL rfl ?_);refine oG (qS db ?_);refine rU (upd (upd (upd (Ph l s e) 5 (.i (((bG (fun x:En=>decide (x.sec=s∧x.en=e)) l (i0+1+k)).2:Nat):Int))) 6 (.i ((i0+1+k:Nat):Int))) 7 (.pt 51 0)) (U4 (U4 (U4 U5 0 (.live ⟨(enc Vl ((bG (fun x:En=>decide (x.sec=s∧x.en=e)) l (i0+1+k)).1)),124,2⟩)) 51 (.live xf)) 51 (.live ⟨[.i ((((bG (fun x:En=>decide (x.sec=s∧x.en=e)) l (i0+1+k)).1).getD (i0+1+k) dE).sec),.i ((((bG (fun x:En=>decide (x.sec=s∧x.en=e)) l (i0+1+k)).1).getD (i0+1+k) dE).en)],124,1⟩)) ?_;refine aj (mG (.fn 109 [.rp [.i s,.i e]]) ?_);refine oG (cZ [.i ((((bG (fun x:En=>decide (x.sec=s∧x.en=e)) l (i0+1+k)).1).getD (i0+1+k) dE).sec),.i ((((bG (fun x:En=>decide (x.sec=s∧x.en=e)) l (i0+1+k)).1).getD (i0+1+k) dE).en)] fT db ?_);refine oG (qJ (zB ((((bG (fun x:En=>decide (x.sec=s∧x.en=e)) l (i0+1+k)).1).getD (i0+1+k) dE).sec) ((((bG (fun x:En=>decide (x.sec=s∧x.en=e)) l (i0+1+k)).1).getD (i0+1+k) dE).en) s e) BP ?_);refine oG (gV rfl rfl rfl rfl ?_);refine rU (upd (upd (upd (upd (Ph l s e) 5 (.i (((bG (fun x:En=>decide (x.sec=s∧x.en=e)) l (i0+1+k)).2:Nat):Int))) 6 (.i ((i0+1+k:Nat):Int))) 7 (.pt 51 0)) 29 (.b (!(decide (((((bG (fun x:En=>decide (x.sec=s∧x.en=e)) l (i0+1+k)).1).getD (i0+1+k) dE).sec)=s∧((((bG (fun x:En=>decide (x.sec=s∧x.en=e)) l (i0+1+k)).1).getD (i0+1+k) dE).en)=e))))) (U4 (U4 (U4 U5 0 (.live ⟨(enc Vl ((bG (fun x:En=>decide (x.sec=s∧x.en=e)) l (i0+1+k)).1)),124,2⟩)) 51 (.live xf)) 51 (.live ⟨[.i ((((bG (fun x:En=>decide (x.sec=s∧x.en=e)) l (i0+1+k)).1).getD (i0+1+k) dE).sec),.i ((((bG (fun x:En=>decide (x.sec=s∧x.en=e)) l (i0+1+k)).1).getD (i0+1+k) dE).en)],124,1⟩)) ?_;refine cD (fun hc2=>?_) fun hc2=>?_
  ·skip;have eA:=kP hc2;refine aj (mS ?_);refine mV ?_;refine oG (cZ [.i ((((bG (fun x:En=>decide (x.sec=s∧x.en=e)) l (i0+1+k)).1).getD (i0+1+k) dE).sec),.i ((((bG (fun x:En=>decide (x.sec=s∧x.en=e)) l (i0+1+k)).1).getD (i0+1+k) dE).en)] fT db ?_);refine oG (iJ (k:=(bG (fun x:En=>decide (x.sec=s∧x.en=e)) l (i0+1+k)).2) rfl rfl rfl cR db rfl rfl oo ?_);refine oG (l9 (f:=Vl) (l:=(bG (fun x:En=>decide (x.sec=s∧x.en=e)) l (i0+1+k)).1) (l':=((bG (fun x:En=>decide (x.sec=s∧x.en=e)) l (i0+1+k)).1).set ((bG (fun x:En=>decide (x.sec=s∧x.en=e)) l (i0+1+k)).2) (⟨(((bG (fun x:En=>decide (x.sec=s∧x.en=e)) l (i0+1+k)).1).getD (i0+1+k) dE).sec,(((bG (fun x:En=>decide (x.sec=s∧x.en=e)) l (i0+1+k)).1).getD (i0+1+k) dE).en⟩:En)) (⟨(((bG (fun x:En=>decide (x.sec=s∧x.en=e)) l (i0+1+k)).1).getD (i0+1+k) dE).sec,(((bG (fun x:En=>decide (x.sec=s∧x.en=e)) l (i0+1+k)).1).getD (i0+1+k) dE).en⟩:En) rfl rfl rfl db rfl rfl rfl rfl rfl (fun _=>rfl) oo rfl rfl ?_);refine rU (upd (upd (upd (Ph l s e) 5 (.i (((bG (fun x:En=>decide (x.sec=s∧x.en=e)) l (i0+1+k)).2:Nat):Int))) 6 (.i ((i0+1+k:Nat):Int))) 7 (.pt 51 0)) (U4 (U4 (U4 (U4 U5 0 (.live ⟨(enc Vl ((bG (fun x:En=>decide (x.sec=s∧x.en=e)) l (i0+1+k)).1)),124,2⟩)) 51 (.live xf)) 51 (.live ⟨[.i ((((bG (fun x:En=>decide (x.sec=s∧x.en=e)) l (i0+1+k)).1).getD (i0+1+k) dE).sec),.i ((((bG (fun x:En=>decide (x.sec=s∧x.en=e)) l (i0+1+k)).1).getD (i0+1+k) dE).en)],124,1⟩)) 0 (.live ⟨(enc Vl (((bG (fun x:En=>decide (x.sec=s∧x.en=e)) l (i0+1+k)).1).set ((bG (fun x:En=>decide (x.sec=s∧x.en=e)) l (i0+1+k)).2) (⟨(((bG (fun x:En=>decide (x.sec=s∧x.en=e)) l (i0+1+k)).1).getD (i0+1+k) dE).sec,(((bG (fun x:En=>decide (x.sec=s∧x.en=e)) l (i0+1+k)).1).getD (i0+1+k) dE).en⟩:En))),124,2⟩)) ?_;refine bn (mV ?_);refine oG (qB (.int .i64 (((bG (fun x:En=>decide (x.sec=s∧x.en=e)) l (i0+1+k)).2+1:Nat):Int)) (addN om) ?_);refine mV ?_;refine ak (bn (mV ?_));refine oG (qB (.int .i64 ((i0+1+k+1:Nat):Int)) (addN om) ?_);refine mV ?_;refine ak ?_;show _∧_;have hs:=Gd (fun x:En=>decide (x.sec=s∧x.en=e)) dE (l:=l) (j:=i0+1+k) om ((Bool.not_eq_true' _).mp hc2);refine ⟨by omega,trivial,?_⟩;exact iL [(0,0)] [((0,0),.live _)] ⟨U9 rfl (by exact congrArg (fun l_=>aC.mk (enc Vl l_) 124 2) (congrArg Prod.fst hs)),trivial⟩ (he:=(sS rfl (sS (by exact congrArg (fun n_:Int=>AV.v (.int .i64 n_)) (congrArg (fun q:List En×Nat=>((q.2:Nat):Int)) hs.symm)) (sS rfl (sS rfl (sM rfl b_))))))
  have iy:=Xz hc2;refine aX (bn (mV ?_));refine oG (qB (.int .i64 ((i0+1+k+1:Nat):Int)) (addN om) ?_);refine mV ?_;refine ak ?_;show _∧_;have hs:=agj (fun x:En=>decide (x.sec=s∧x.en=e)) dE (l:=l) (j:=i0+1+k) om ((Bool.not_eq_false' _).mp hc2);refine ⟨by omega,trivial,?_⟩;exact iL [(0,0)] [((0,0),.live _)] ⟨U9 rfl (by exact congrArg (fun l_=>aC.mk (enc Vl l_) 124 2) (congrArg Prod.fst hs)),trivial⟩ (he:=(sS rfl (sS (by exact congrArg (fun n_:Int=>AV.v (.int .i64 n_)) (congrArg (fun q:List En×Nat=>((q.2:Nat):Int)) hs.symm)) (sS rfl (sS rfl (sM rfl b_))))))
 have fk:=of_decide_eq_false hc1;refine VJ (aj (mS ?_));refine mV ?_;refine oG (qH (l:=(bG (fun x:En=>decide (x.sec=s∧x.en=e)) l (i0+1+k)).2) (ob:=⟨(enc Vl ((bG (fun x:En=>decide (x.sec=s∧x.en=e)) l (i0+1+k)).1)),124,2⟩) rfl rfl rfl cR db rfl rfl rfl ⟨_,rfl⟩ oo ?_);refine oG (uh (n:=l.length-((bG (fun x:En=>decide (x.sec=s∧x.en=e)) l (i0+1+k)).2)) (ob:=⟨(enc Vl ((bG (fun x:En=>decide (x.sec=s∧x.en=e)) l (i0+1+k)).1)),124,2⟩) rfl rfl rfl rfl cR (ada rL) rfl rfl rfl oo (Gf (fun _=>rfl) om) (af8 (e:=Vl) (v:=dE) (s:=2) (i:=(bG (fun x:En=>decide (x.sec=s∧x.en=e)) l (i0+1+k)).2) (n:=l.length-(bG (fun x:En=>decide (x.sec=s∧x.en=e)) l (i0+1+k)).2) (fun _=>rfl) (Gg (z:= #[.int .i64 0,.int .i64 0]) rfl (by decide)) om) ?_);refine rU (upd (upd (upd none_ 0 (.sl 0 0 l.length)) 4 vN) 5 (.i (((bG (fun x:En=>decide (x.sec=s∧x.en=e)) l (i0+1+k)).2:Nat):Int))) (U4 (U4 U5 0 (.live ⟨(enc Vl ((bG (fun x:En=>decide (x.sec=s∧x.en=e)) l (i0+1+k)).1)),124,2⟩)) 0 (.live ⟨(enc Vl ((bG (fun x:En=>decide (x.sec=s∧x.en=e)) l (i0+1+k)).1.take (bG (fun x:En=>decide (x.sec=s∧x.en=e)) l (i0+1+k)).2++List.replicate (l.length-(bG (fun x:En=>decide (x.sec=s∧x.en=e)) l (i0+1+k)).2) dE)),124,2⟩)) ?_;refine aj (mS ?_);refine mV ?_;refine oG (abx (hgh:=(bG (fun x:En=>decide (x.sec=s∧x.en=e)) l (i0+1+k)).2) rfl rfl rfl cR db rfl ⟨_,rfl⟩ oo ?_);refine mS ?_;refine rU (upd none_ 4 (.sl 0 0 ((bG (fun x:En=>decide (x.sec=s∧x.en=e)) l (i0+1+k)).2))) (U4 (U4 U5 0 (.live ⟨(enc Vl ((bG (fun x:En=>decide (x.sec=s∧x.en=e)) l (i0+1+k)).1)),124,2⟩)) 0 (.live ⟨(enc Vl ((bG (fun x:En=>decide (x.sec=s∧x.en=e)) l (i0+1+k)).1.take (bG (fun x:En=>decide (x.sec=s∧x.en=e)) l (i0+1+k)).2++List.replicate (l.length-(bG (fun x:En=>decide (x.sec=s∧x.en=e)) l (i0+1+k)).2) dE)),124,2⟩)) ?_;have hjk:i0+1+k=l.length:=by omega
 rw [hjk,List.take_of_length_le (Nat.le_refl _)] at hv4 hv5;refine VA ⟨(upd none_ 4 (.sl 0 0 ((VE (fun x:En=>decide (x.sec=s∧x.en=e)) l).length))),(U4 U5 0 (.live ⟨(enc Vl (VE (fun x:En=>decide (x.sec=s∧x.en=e)) l++List.replicate (l.length-(VE (fun x:En=>decide (x.sec=s∧x.en=e)) l).length) dE)),124,2⟩))⟩ ?_ ?_
 ·skip;exact iL [(0,0)] [((0,0),.live _)] ⟨U9 rfl (by exact congrArg (fun l_=>aC.mk (enc Vl l_) 124 2) (by rw [hjk,hv4,hv5])),trivial⟩ (he:=(sM (by exact congrArg (AV.sl 0 0) (by rw [hjk,hv5])) b_))
 exact aZ (jG rfl rfl rfl rfl)
theorem KE (n:Nat) (hn:n≤4294967296):Yr Tryz.prog 115 [vN,.v (.int .i64 (n:Int))] (.sl 0 0 0) [⟨[],124,2⟩]:=by
 refine bL (N:=27) Tryz.func115 rfl rfl (bM rfl) (by simp) (fun w0 X Pk=>?_);refine aj (mV ?_);refine ak (aF (aj (mV ?_)));refine bB ?_;refine ak (cD (fun hc0=>?_) fun hc0=>?_)
 ·skip;have hf1:=of_decide_eq_true hc0;exfalso;omega
 have hf2:=of_decide_eq_false hc0;refine aX (aF (aj (mV ?_)));refine mV ?_;refine oG (y9 rfl rfl rfl rfl cR rfl ?_);refine mV ?_;refine oG (dU rfl rfl rfl rfl cR (len_nil rfl) ?_);refine jU ((.int .i64 0)) ?_;refine oG (qB (.int .i64 (n:Int)) (L8 om) ?_);refine mV ?_;refine rU (upd (upd (upd none_ 0 vN) 1 (.i (n:Int))) 4 vN) U5 ?_;refine aj (mV ?_);refine bB ?_;refine ak (cD (fun hc1=>?_) fun hc1=>?_)
 ·skip;have hf3:=of_decide_eq_true hc1;refine bn (mV ?_);refine mV ?_;refine oG (y9 rfl rfl rfl rfl cR rfl ?_);refine oG (ai8 rfl rfl rfl cR db rfl rfl ⟨_,rfl⟩ ?_);refine mV ?_;refine oG (ajz (n:=n) 51 rfl rfl rfl rfl cR fm kO rfl (by decide) rfl rfl om om om rfl ?_);refine mV ?_;refine oG (dU rfl rfl rfl rfl cR (len_nil rfl) ?_);refine oG (abx (hgh:=0) rfl rfl rfl cR db rfl ⟨_,rfl⟩ oo ?_);refine mS ?_;refine ak (rT (upd (upd none_ 0 (.sl 51 0 0)) 4 vN) (U4 U5 51 (.live ⟨[],124,2⟩)) ?_);refine aj (mS ?_);refine mS ?_;exact ak (aZ (iK 51 rfl rfl rfl rfl rfl))
 have eA:=of_decide_eq_false hc1;refine aX (aj (mV ?_));refine mV ?_;refine rU (upd none_ 4 vN) U5 ?_;refine VA _ (iH 4 52 124 2 rfl rfl) ?_;exact aZ (iK 52 rfl rfl rfl rfl rfl)
abbrev xh (ls:List (List En)) (j:Nat):Nat→aH:=(U4 U5 1 (.live ⟨(enc Vl (eH ls j)),124,2⟩))
abbrev qa (ls:List (List En)):Nat→AV:=(upd (upd none_ 0 (.q jO ls)) 2 vN)
theorem KF (ls:List (List En)) (hl:ls.length≤16) (hx:∀x,x∈ls→x.length≤65536):Fn Tryz.prog 110 [.q jO ls] (.q Vl ls.flatten):=by
 refine bL (N:=36) Tryz.func110 rfl rfl (bM rfl) (by simp) (fun w0 X Pk=>?_);refine aj (mV ?_);refine ak (aj (mV ?_));refine ak (aF (aj (mO ?_)));refine oG (qN pq ?_);refine mV ?_;refine rU (upd (upd (upd (upd (qa ls) 3 (.i 0)) 9 (.q jO ls)) 10 (.i (ls.length:Int))) 11 (.i 0)) U5 ?_;refine bf (cB (fun k=>⟨(upd (upd (upd (upd (qa ls) 3 (.i ((eH ls k).length:Int))) 9 (.q jO ls)) 10 (.i (ls.length:Int))) 11 (.i (k:Int))),U5⟩) (fun k=>True) (ls.length) ?_ trivial (fun k c9 hinv=>?_))
 ·skip;exact iN
 have hcl:=zY hx k;refine aj (bB ?_);refine ak (aF (cD (fun hc0=>?_) fun hc0=>?_))
 ·skip;have hf1:=of_decide_eq_true hc0;have hkl:k<ls.length:=by omega
  have hxk:=hx _ (VR [] hkl);refine aX (aF (bf (aj (oG (qX [] pq BR ?_)))));refine oO BL ?_;refine mO ?_;refine rU (upd (upd (upd (upd (upd (qa ls) 3 (.i ((eH ls k).length:Int))) 5 (.q Vl (ls.getD k []))) 9 (.q jO ls)) 10 (.i (ls.length:Int))) 11 (.i (k:Int))) U5 ?_;refine aj (mV ?_);refine mO ?_;refine oG (qN cR ?_);refine oG (qB (.int .i64 (((eH ls k).length:Int)+((ls.getD k []).length:Int))) (XO om) ?_);refine mV ?_;refine rU (upd (upd (upd (upd (upd (qa ls) 3 (.i (((eH ls k).length:Int)+((ls.getD k []).length:Int)))) 5 (.q Vl (ls.getD k []))) 9 (.q jO ls)) 10 (.i (ls.length:Int))) 11 (.i (k:Int))) U5 ?_;refine aj (mV ?_);refine bB ?_;refine ak (cD (fun hc1=>?_) fun hc1=>?_)
  ·skip;have hf2:=of_decide_eq_true hc1;exfalso;omega
  have hf3:=of_decide_eq_false hc1;refine aX (bn (oG (qB (.int .i64 ((k+1:Nat):Int)) (addN om) ?_)));refine mV ?_;refine ak ?_;show _∧_;have hs_:=uj (d:=[]) hkl;refine ⟨by omega,trivial,?_⟩;exact iN (he:=(sS rfl (sS rfl (sS rfl (sS (by exact congrArg (fun n_:Int=>AV.v (.int .i64 n_)) (by rw [hs_,List.length_append];omega)) (sS rfl (sS rfl b_)))))))
 have eA:=of_decide_eq_false hc0;refine VJ (aj (mV ?_));refine oG (jB 51 (KE ((eH ls k).length) oo) rfl rfl rfl rfl rfl KB lS (.sl _ _ _ trivial) (jE jF) (iM rfl) rfl rfl ?_);refine mS ?_;refine rU (upd (qa ls) 6 (.sl 51 0 0)) (U4 U5 51 (.live ⟨[],124,2⟩)) ?_;refine aF (aj (mO ?_));refine oG (qN pq ?_);refine mV ?_;refine ak (bf (cB (fun j=>⟨(upd (upd (upd (upd (upd none_ 2 vN) 6 (.sl 1 0 ((eH ls j).length))) 25 (.q jO ls)) 26 (.i (ls.length:Int))) 27 (.i (j:Int))),(xh ls j)⟩) (fun j=>True) (ls.length) ?_ trivial (fun j mF hinv=>?_)))
 ·skip;exact iI 51 1 rfl
 have Ov:=zY hx j;refine aj (bB ?_);refine ak (aF (cD (fun hc2=>?_) fun hc2=>?_))
 ·skip;have iy:=of_decide_eq_true hc2;have hjl:j<ls.length:=by omega
  have hxj:=hx _ (VR [] hjl);refine aX (aF (bf (aj (oG (qX [] pq BR ?_)))));refine oO BL ?_;refine mO ?_;refine rU (upd (upd (upd (upd (upd (upd none_ 2 vN) 6 (.sl 1 0 ((eH ls j).length))) 8 (.q Vl (ls.getD j []))) 25 (.q jO ls)) 26 (.i (ls.length:Int))) 27 (.i (j:Int))) (xh ls j) ?_;refine bn (mS ?_);refine mO ?_;refine oG (kF (f:=Vl) (l:=eH ls j) (l2:=ls.getD j []) 52 rfl rfl rfl rfl cR kO rfl (by decide) rfl rfl rfl rfl rfl rfl (fun _=>rfl) rfl rfl rfl oo oo rfl ?_);refine mS ?_;refine ak (rT (upd (upd (upd (upd (upd (upd none_ 2 vN) 6 (.sl 52 0 (((eH ls j)++(ls.getD j [])).length))) 8 (.q Vl (ls.getD j []))) 25 (.q jO ls)) 26 (.i (ls.length:Int))) 27 (.i (j:Int))) (U4 (U4 (xh ls j) 1 .dead) 52 (.live ⟨(enc Vl ((eH ls j)++(ls.getD j []))),124,2⟩)) ?_);refine bn (oG (qB (.int .i64 ((j+1:Nat):Int)) (addN om) ?_));refine mV ?_;refine ak ?_;show _∧_;have hs_:=uj (d:=[]) hjl;refine ⟨by omega,trivial,?_⟩;exact iI 52 1 rfl (he:=(sS rfl (sS rfl (sS rfl (sM (by exact congrArg (AV.sl 1 0) (congrArg List.length hs_.symm)) (sS rfl b_)))))) (WG:=(by exact congrArg (fun l_=>aC.mk (enc Vl l_) 124 2) hs_))
 have fk:=of_decide_eq_false hc2;refine VJ (aj (mS ?_));refine mS ?_;refine ak ?_;have he:eH ls j=ls.flatten:=by unfold eH;rw [List.take_of_length_le om]
 refine VA _ (Wx rfl (fun _ h=>h) (dJ 2 (.q Vl (eH ls j)) (W8 (id:=1) (n:=(eH ls j).length) (o:=⟨(enc Vl (eH ls j)),124,2⟩) rfl (WH (fun _=>rfl) (by first|rfl|(simp;done)))) Wy)) ?_;exact aZ (bg (av:=.ro ((eH ls j).length) (enc Vl (eH ls j))) rfl rfl (by rw [he]))
abbrev ND (a:List aD) (d:List aP) (s e:Int):List AV:=(enc Vl ([(V1 a ((d.getD (aV d (U6 a s e)).toNat dP).left) (U6 a s e):(List En)),(V1 a ((d.getD (aV d (U6 a s e)).toNat dP).right) (U6 a s e):(List En))].flatten))
abbrev Dy (d:List aP) (a:List aD) (s e:Int):List AV:=[.i ((d.getD (aV d (U6 a s e)).toNat dP).node),.i ((d.getD (aV d (U6 a s e)).toNat dP).stem),.i ((d.getD (aV d (U6 a s e)).toNat dP).left),.i ((d.getD (aV d (U6 a s e)).toNat dP).right)]
abbrev Dz (a:List aD) (d:List aP) (s e:Int):AV:=(.q Vl (V1 a ((d.getD (aV d (U6 a s e)).toNat dP).stem) (U6 a s e)))
abbrev sT (s e:Int):Nat→aH:=(U4 U5 51 (.live ⟨[.i s,.i e],124,1⟩))
abbrev lW (a:List aD) (d:List aP):List AV:=[.one,.q aN a,.one,.q aJ d,.one,.one,.one,.one,.one,.one]
abbrev nZ (s e:Int) (d:List aP) (a:List aD):Nat→aH:=(U4 (U4 (sT s e) 53 (.live ⟨[.i 0,.i 0,.i 0,.i 0],54,1⟩)) 53 (.live ⟨(Dy d a s e),54,1⟩))
abbrev xi (s e:Int) (a:List aD):Nat→aH:=(U4 (sT s e) 52 (.live ⟨(enc Vl (bK a (U6 a s e))),124,2⟩))
abbrev xj (a:List aD) (d:List aP) (s e:Int):Nat→AV:=(upd (upd (upd (upd none_ 0 (.rp (lW a d))) 4 vN) 5 (.i (U6 a s e))) 9 (.pt 53 0))
abbrev qb (a:List aD) (d:List aP) (s e:Int):Nat→AV:=(upd (upd (upd (upd none_ 0 (.rp (lW a d))) 3 (.pt 51 0)) 4 vN) 5 (.i (U6 a s e)))
theorem Hd (a:List aD) (d:List aP) (s e:Int) (hs:a.length≤65536) (hp:d.length≤65536):Fn Tryz.prog 95 [.rp [.one,.q aN a,.one,.q aJ d,.one,.one,.one,.one,.one,.one],.agg [.v (.int .i64 s),.v (.int .i64 e)]] (.q Vl (Vn a d s e)):=by
 refine bL (N:=70) Tryz.func95 rfl rfl (bM rfl) (by simp) (fun w0 X Pk=>?_);refine aj (oG (qW 51 ?_));refine mV ?_;refine ak (aj (mR ?_));refine oG (cZ [.i s,.i e] fT db ?_);refine oG (qC (Ba a s e oo) BM ?_);refine mG (.Vm [.i (U6 a s e),.b (!dD a s e)]) ?_;refine oG (qE ?_);refine oG (qE ?_);refine mV ?_;refine mV ?_;refine rU (upd (qb a d s e) 6 (.b (!dD a s e))) (sT s e) ?_;refine aF (aj (mV ?_));refine oG (gV rfl rfl rfl rfl ?_);refine ak (cD (fun hc0=>?_) fun hc0=>?_)
 ·skip;have hf1:=kP hc0;have hn:dD a s e=true:=by simpa using hc0
  refine aj (mV ?_);refine ak (VA _ (Wx rfl (fun _ h=>h) (dJ 4 (.ro 0 []) .nil Wy)) ?_);exact aZ (bg (av:=.ro 0 []) rfl rfl (by rw [agc hn];rfl))
 have hf2:=Xz hc0;have hn:dD a s e=false:=by simpa using hc0
 have XC:=PK d (U6 a s e);refine aX (aj (mR ?_));refine mV ?_;refine oG (qC (Aw d (U6 a s e) oo) BN ?_);refine mV ?_;refine rU (upd (qb a d s e) 7 (.i (aV d (U6 a s e)))) (sT s e) ?_;refine aF (aj (mV ?_));refine bB ?_;refine ak (cD (fun hc1=>?_) fun hc1=>?_)
 ·skip;have hf3:=of_decide_eq_true hc1;have hi:¬0≤aV d (U6 a s e):=by omega
  have hle0:=qU a (U6 a s e);refine aj (mR ?_);refine mV ?_;refine oG (jB 52 (Bb a (U6 a s e) oo) rfl rfl rfl rfl rfl BO lS (.sl _ _ _ trivial) (jE jF) (iM rfl) rfl rfl ?_);refine oG (kC (caps:=[.tmp 3]) rfl rfl rfl rfl ?_);refine oG (kL true [52] [] (L6 (bK a (U6 a s e)) s e oo) rfl rfl rfl rfl rfl Kx (by decide) ⟨aaA (o:=⟨(enc Vl (bK a (U6 a s e))),124,2⟩) rfl rfl,trivial⟩ ⟨(aay (.sl _ _ _ (by simp)) rfl),(aeI (kH lT)),trivial⟩ rfl trivial (fun _=>⟨.sl _ _ _ trivial,⟨(fun c hc=>((inferInstance:XA (enc Vl (VE (fun x:En=>decide (x.sec=s∧x.en=e)) (bK a (U6 a s e))++List.replicate ((bK a (U6 a s e)).length-(VE (fun x:En=>decide (x.sec=s∧x.en=e)) (bK a (U6 a s e))).length) dE))).out c hc).mono (fun _ h=>h.elim) id),trivial⟩⟩) rfl (Xe (jc (cs:=(enc Vl (VE (fun x:En=>decide (x.sec=s∧x.en=e)) (bK a (U6 a s e))++List.replicate ((bK a (U6 a s e)).length-(VE (fun x:En=>decide (x.sec=s∧x.en=e)) (bK a (U6 a s e))).length) dE)))) Yo) ?_);refine mS ?_;refine rU (upd (upd (qb a d s e) 7 (.i (aV d (U6 a s e)))) 8 (.sl 52 0 ((VE (fun x:En=>decide (x.sec=s∧x.en=e)) (bK a (U6 a s e))).length))) (U4 (xi s e a) 52 (.live ⟨(enc Vl (VE (fun x:En=>decide (x.sec=s∧x.en=e)) (bK a (U6 a s e))++List.replicate ((bK a (U6 a s e)).length-(VE (fun x:En=>decide (x.sec=s∧x.en=e)) (bK a (U6 a s e))).length) dE)),124,2⟩)) ?_;refine aF (aj (mS ?_));refine oG (dU rfl rfl rfl rfl cR (eF rfl) ?_);refine bB ?_;refine ak (cD (fun hc2=>?_) fun hc2=>?_)
  ·skip;have eA:=(bne_iff_ne).1 hc2;have hlen:¬(YW a (U6 a s e) s e).length=1:=by rw [aes];simp at hc2;omega
   refine aj (mV ?_);refine rU (upd (upd (qb a d s e) 7 (.i (aV d (U6 a s e)))) 8 (.sl 52 0 ((VE (fun x:En=>decide (x.sec=s∧x.en=e)) (bK a (U6 a s e))).length))) (U4 (xi s e a) 52 (.live ⟨(enc Vl (VE (fun x:En=>decide (x.sec=s∧x.en=e)) (bK a (U6 a s e))++List.replicate ((bK a (U6 a s e)).length-(VE (fun x:En=>decide (x.sec=s∧x.en=e)) (bK a (U6 a s e))).length) dE)),124,2⟩)) ?_;refine VA _ (Wx rfl (fun _ h=>h) (dJ 4 (.ro 0 []) .nil Wy)) ?_;exact aZ (bg (av:=.ro 0 []) rfl rfl (by rw [yV hn hi hlen];rfl))
  have iy:=(bne_eq_false_iff_eq).1 hc2;have hlen:(YW a (U6 a s e) s e).length=1:=by rw [aes];simp at hc2;omega
  refine aX (aj (mS ?_));refine mS ?_;refine rU (upd (upd (upd (upd (upd none_ 0 (.rp (lW a d))) 3 (.pt 51 0)) 4 (.sl 52 0 ((VE (fun x:En=>decide (x.sec=s∧x.en=e)) (bK a (U6 a s e))).length))) 5 (.i (U6 a s e))) 7 (.i (aV d (U6 a s e)))) (U4 (xi s e a) 52 (.live ⟨(enc Vl (VE (fun x:En=>decide (x.sec=s∧x.en=e)) (bK a (U6 a s e))++List.replicate ((bK a (U6 a s e)).length-(VE (fun x:En=>decide (x.sec=s∧x.en=e)) (bK a (U6 a s e))).length) dE)),124,2⟩)) ?_;refine VA _ (Wx rfl (fun _ h=>h) (dJ 4 (.q Vl (VE (fun x:En=>decide (x.sec=s∧x.en=e)) (bK a (U6 a s e)))) (Bc (id:=52) (n:=(VE (fun x:En=>decide (x.sec=s∧x.en=e)) (bK a (U6 a s e))).length) (o:=⟨(enc Vl (VE (fun x:En=>decide (x.sec=s∧x.en=e)) (bK a (U6 a s e))++List.replicate ((bK a (U6 a s e)).length-(VE (fun x:En=>decide (x.sec=s∧x.en=e)) (bK a (U6 a s e))).length) dE)),124,2⟩) (f:=Vl) (l:=VE (fun x:En=>decide (x.sec=s∧x.en=e)) (bK a (U6 a s e))) (rest:=List.replicate ((bK a (U6 a s e)).length-(VE (fun x:En=>decide (x.sec=s∧x.en=e)) (bK a (U6 a s e))).length) dE) rfl rfl rfl (fun _=>rfl)) Wy)) ?_;exact aZ (bg (av:=.ro ((VE (fun x:En=>decide (x.sec=s∧x.en=e)) (bK a (U6 a s e))).length) (enc Vl (VE (fun x:En=>decide (x.sec=s∧x.en=e)) (bK a (U6 a s e))))) rfl rfl (by rw [y7 hn hi hlen,aes]))
 have fk:=of_decide_eq_false hc1;have hi:0≤aV d (U6 a s e):=by omega
 have ho1:=aaW a (d.getD (aV d (U6 a s e)).toNat dP).left (U6 a s e);have ho2:=aaW a (d.getD (aV d (U6 a s e)).toNat dP).right (U6 a s e);have hxl:∀x,x∈ [V1 a (d.getD (aV d (U6 a s e)).toNat dP).left (U6 a s e),V1 a (d.getD (aV d (U6 a s e)).toNat dP).right (U6 a s e)]→x.length≤65536:=fun x hx=>by rcases List.mem_cons.1 hx with rfl|hx;omega;rw [List.mem_singleton.1 hx];omega
 refine aX (aj (mR ?_));refine oG (VV rfl rfl rfl rfl rfl ?_);refine oG (qF (.rp (lW a d)) (.rp (lW a d)) mf dj ?_);refine oG (qF (.rp (lW a d)) (.rp [.q aJ d,.one,.one,.one,.one,.one,.one]) gA fI ?_);refine oO il ?_;refine mV ?_;refine oG (Wo dP rfl rfl rfl gb im rfl rfl (fun _=>rfl) rfl om oo ?_);refine oG (cZ (Dy d a s e) v2 im ?_);refine oG (WW 53 rfl rfl rfl rfl Cg rfl ?_);refine oG (qS im ?_);refine rU (upd (qb a d s e) 9 (.pt 53 0)) (nZ s e d a) ?_;refine aF (aj (fG (.pt 51 0) gv bu ?_));refine oV bq ?_;refine ak (bf (aj (fG (.pt 53 1) kJ bu ?_)));refine oV bq ?_;refine bB ?_;refine mV ?_;refine rU (upd (upd (xj a d s e) 41 (.i s)) 42 (.b (s==((d.getD (aV d (U6 a s e)).toNat dP).stem)))) (nZ s e d a) ?_;refine cD (fun hc3=>?_) fun hc3=>?_
 ·skip;have gJ:=(beq_iff_eq).1 hc3;have hq:s=(d.getD (aV d (U6 a s e)).toNat dP).stem:=by simpa using hc3
  refine aF (Vd 12 [(57,.ro ([(V1 a ((d.getD (aV d (U6 a s e)).toNat dP).left) (U6 a s e):(List En)),(V1 a ((d.getD (aV d (U6 a s e)).toNat dP).right) (U6 a s e):(List En))].flatten.length) (ND a d s e)),(56,.ro 2 [.q Vl (V1 a ((d.getD (aV d (U6 a s e)).toNat dP).left) (U6 a s e)),.q Vl (V1 a ((d.getD (aV d (U6 a s e)).toNat dP).right) (U6 a s e))]),(55,.q Vl (V1 a ((d.getD (aV d (U6 a s e)).toNat dP).right) (U6 a s e))),(54,.i (U6 a s e)),(53,.i ((d.getD (aV d (U6 a s e)).toNat dP).right)),(52,.pt 53 3),(51,.rp (lW a d)),(50,.q Vl (V1 a ((d.getD (aV d (U6 a s e)).toNat dP).left) (U6 a s e))),(49,.i (U6 a s e)),(48,.i ((d.getD (aV d (U6 a s e)).toNat dP).left)),(47,.pt 53 2),(46,.rp (lW a d))] mixed ?_ ?_)
  ·refine ⟨?_,?_,?_,?_,?_,?_,?_,?_,?_,?_,?_,?_,trivial⟩
   ·exact aY
   ·exact sF (.pt 53 0) (.pt 53 2) rA bu
   ·exact sL bq
   ·exact aY
   ·exact sC (sd a ((d.getD (aV d (U6 a s e)).toNat dP).left) (U6 a s e) oo) rO
   ·exact aY
   ·exact sF (.pt 53 0) (.pt 53 3) o4 bu
   ·exact sL bq
   ·exact aY
   ·exact sC (sd a ((d.getD (aV d (U6 a s e)).toNat dP).right) (U6 a s e) oo) rO
   ·exact dW 56 fun st au hE=>V_ rfl rfl rfl pq KC (by decide) (by decide) (by simp only [WL,List.map,aO,hE 50 rfl,hE 55 rfl];rfl) rfl (by rw [au];rfl)
   exact dW 57 fun st au hE=>call_ (KF [V1 a (d.getD (aV d (U6 a s e)).toNat dP).left (U6 a s e),V1 a (d.getD (aV d (U6 a s e)).toNat dP).right (U6 a s e)] (Nat.le_of_ble_eq_true rfl) hxl) rfl rfl rfl rfl rfl Ky (by show [st.env 56]++_=_;rw [hE 56 rfl];rfl) (by rw [au];rfl)
  refine mO ?_;exact ak (aZ (bg (av:=.ro ([(V1 a ((d.getD (aV d (U6 a s e)).toNat dP).left) (U6 a s e):(List En)),(V1 a ((d.getD (aV d (U6 a s e)).toNat dP).right) (U6 a s e):(List En))].flatten.length) (enc Vl ([(V1 a ((d.getD (aV d (U6 a s e)).toNat dP).left) (U6 a s e):(List En)),(V1 a ((d.getD (aV d (U6 a s e)).toNat dP).right) (U6 a s e):(List En))].flatten))) rfl rfl (by rw [yU hn hi hq];simp)))
 have iU:=(beq_eq_false_iff_ne).1 hc3;have hq:¬s=(d.getD (aV d (U6 a s e)).toNat dP).stem:=by simpa using hc3
 refine aF (aj (fG (.pt 53 2) rA bu ?_));refine oV bq ?_;refine bB ?_;refine mV ?_;refine rU (upd (upd (xj a d s e) 41 (.i s)) 58 (.b (s==((d.getD (aV d (U6 a s e)).toNat dP).left)))) (nZ s e d a) ?_;refine cD (fun hc4=>?_) fun hc4=>?_
 ·skip;have mL:=(beq_iff_eq).1 hc4;refine aX (cD (fun fX=>?_) fun fX=>?_)
  ·skip;have lK:=(beq_iff_eq).1 fX;refine aj (mR ?_);refine fG (.pt 53 1) kJ bu ?_;refine oV bq ?_;refine mV ?_;refine oG (qC (sd a ((d.getD (aV d (U6 a s e)).toNat dP).stem) (U6 a s e) oo) rO ?_);refine mO ?_;refine rU (upd none_ 4 (Dz a d s e)) (nZ s e d a) ?_;exact aZ (bg (av:=.ro ((V1 a ((d.getD (aV d (U6 a s e)).toNat dP).stem) (U6 a s e)).length) (enc Vl (V1 a ((d.getD (aV d (U6 a s e)).toNat dP).stem) (U6 a s e)))) rfl rfl (by rw [aew hn hi hq (.inl (by simpa using hc4))]))
  have lJ:=(beq_eq_false_iff_ne).1 fX;exfalso;rw [hc4] at fX;cases fX
 have nP:=(beq_eq_false_iff_ne).1 hc4;refine bn (fG (.pt 53 3) o4 bu ?_);refine oV bq ?_;refine bB ?_;refine mV ?_;refine ak (rT (upd (xj a d s e) 58 (.b (s==((d.getD (aV d (U6 a s e)).toNat dP).right)))) (nZ s e d a) ?_);refine cD (fun hc6=>?_) fun hc6=>?_
 ·skip;have mD:=(beq_iff_eq).1 hc6;refine aj (mR ?_);refine fG (.pt 53 1) kJ bu ?_;refine oV bq ?_;refine mV ?_;refine oG (qC (sd a ((d.getD (aV d (U6 a s e)).toNat dP).stem) (U6 a s e) oo) rO ?_);refine mO ?_;refine rU (upd none_ 4 (Dz a d s e)) (nZ s e d a) ?_;exact aZ (bg (av:=.ro ((V1 a ((d.getD (aV d (U6 a s e)).toNat dP).stem) (U6 a s e)).length) (enc Vl (V1 a ((d.getD (aV d (U6 a s e)).toNat dP).stem) (U6 a s e)))) rfl rfl (by rw [aew hn hi hq (.inr (by simpa using hc6))]))
 have nR:=(beq_eq_false_iff_ne).1 hc6;refine aX (aj (mV ?_));refine ak (VA _ (Wx rfl (fun _ h=>h) (dJ 4 (.ro 0 []) .nil Wy)) ?_);exact aZ (bg (av:=.ro 0 []) rfl rfl (by rw [af7 hn hi hq (fun h=>h.elim (fun h=>(beq_eq_false_iff_ne.1 hc4) h) (fun h=>(beq_eq_false_iff_ne.1 hc6) h))];rfl))
abbrev xk (l:List Int) (v:Int):Nat→AV:=(upd (upd (upd none_ 0 (.q eI l)) 1 (.i v)) 4 (.i 0))
theorem DC (l:List Int) (v:Int) (hl:l.length≤4294967296):Fn Tryz.prog 68 [.q eI l,.v (.int .i64 v)] (.v (.int .i64 (bX (fun x=>decide (v=x)) l))):=by
 refine bL (N:=19) Tryz.func68 rfl rfl (bM rfl) (by simp) (fun w0 X Pk=>?_);refine aj (mV ?_);refine ak (aF (aj (mO ?_)));refine oG (qN cC ?_);refine mV ?_;refine rU (upd (upd (xk l v) 7 (.i (l.length:Int))) 8 (.i 0)) U5 ?_;refine bf (cB (fun k=>⟨(upd (upd (xk l v) 7 (.i (l.length:Int))) 8 (.i (k:Int))),U5⟩) (fun k=>(l.take k).any (fun x=>decide (v=x))=false) (l.length) ?_ (by simp) (fun k c9 hinv=>?_))
 ·skip;exact iN
 refine aj (bB ?_);refine ak (aF (cD (fun hc0=>?_) fun hc0=>?_))
 ·skip;have hf1:=of_decide_eq_true hc0;refine aX (aF (bf (aj (mV ?_))));refine mV ?_;refine ak (aj (mV ?_));refine mO ?_;refine mV ?_;refine oG (qX (0:Int) cC bu ?_);refine oV bq ?_;refine bB ?_;refine rU (upd (upd (upd (upd (xk l v) 5 (.i (k:Int))) 7 (.i (l.length:Int))) 8 (.i (k:Int))) 16 (.b (v==(l.getD k 0)))) U5 ?_;refine cD (fun hc1=>?_) fun hc1=>?_
  ·skip;have hf2:=(beq_iff_eq).1 hc1;refine aj (mV ?_);refine mV ?_;exact ak (aZ (bg (av:=.v (.int .i64 (k:Int))) rfl rfl (by rw [fO (f:=fun x=>decide (v=x)) 0 om hinv (by simpa using hc1)]<;>rfl)))
  have hf3:=(beq_eq_false_iff_ne).1 hc1;refine aX (bn (oG (qB (.int .i64 ((k+1:Nat):Int)) (addN om) ?_)));refine mV ?_;refine ak ?_;show _∧_;refine ⟨by omega,(fQ 0 om hinv (by simpa using hc1)),?_⟩;exact iN
 have eA:=of_decide_eq_false hc0;refine VJ (aj (mV ?_));exact ak (aZ (bg (av:=.v (.int .i64 (-1))) rfl rfl (by rw [X2 (f:=fun x=>decide (v=x)) om hinv]<;>rfl)))
theorem xl (l:List Int) (v:Int) (hl:l.length≤4294967296):Fn Tryz.prog 73 [.q eI l,.v (.int .i64 v)] (.v (.bool (decide (v∈l)))):=by
 refine bL (N:=9) Tryz.func73 rfl rfl (bM rfl) (by simp) (fun w0 X Pk=>?_);refine aj (mV ?_);refine ak (aj (mO ?_));refine mV ?_;refine oG (qJ (DC l v oo) Co ?_);refine bB ?_;refine mV ?_;refine rU (upd none_ 4 (.b (decide ((bX (fun x=>decide (v=x)) l)≥0)))) U5 ?_;exact aZ (bg (av:=.v (.bool (decide ((bX (fun x=>decide (v=x)) l)≥0)))) rfl rfl (by rw [Gh]))
theorem L9:Vp Tryz.prog 18=true:=by kernel_rfl
theorem wh:Vp Tryz.prog 73=true:=by kernel_rfl
theorem L_:Vp Tryz.prog 74=true:=by kernel_rfl
theorem Ma:Vp Tryz.prog 95=true:=by kernel_rfl
theorem Mb:Vp Tryz.prog 97=true:=by kernel_rfl
theorem Mc:Vp Tryz.prog 98=true:=by kernel_rfl
theorem Md:placesOf Tryz.prog 95=some ((.agg #[(.int .i64 0),(.bool false)]),fun i=>([(0,1),(1,1)]:List (Nat×Nat)).toArray[i]?):=by kernel_rfl
theorem DD:(Tryz.prog.info? 3).bind (·.zero)=some (.int .i64 0):=by kernel_rfl
abbrev xm (l:List Int) (k:Nat):Nat→AV:=(upd (upd (upd none_ 0 (.q eI l)) 2 vN) 3 (.sl 1 0 ((aR l k).length)))
abbrev Po (l:List Int) (k:Nat):Nat→aH:=(U4 U5 1 (.live ⟨(enc eI (aR l k)),3,1⟩))
theorem He (l:List Int) (hl:l.length≤65536):Fn Tryz.prog 18 [.q eI l] (.q eI (nH l)):=by
 refine bL (N:=54) Tryz.func18 rfl rfl (bM rfl) (by simp) (fun w0 X Pk=>?_);refine aj (mV ?_);refine ak (aj (mV ?_));refine ak (bf (cB (fun k=>⟨(xm l k),(Po l k)⟩) (fun k=>(aR l k).length=k∧k≤l.length) (l.length+1) ?_ ⟨rfl,Nat.zero_le _⟩ (fun k c9 hinv=>?_)))
 ·skip;refine (iH 3 51 3 1 rfl rfl).trans ?_;exact iI 51 1 (o:=⟨[],3,1⟩) rfl
 have hk1:=hinv.1;have hk2:=hinv.2;refine bf (aj (mV ?_));refine ak (aF (aj (mV ?_)));refine ak (bf (cB (fun i=>⟨(upd (upd (xm l k) 4 (.i (bO l (aR l k) i))) 5 (.i (i:Int))),(Po l k)⟩) (fun i=>True) (l.length) ?_ trivial (fun i Cq hinv=>?_)))
 ·skip;exact iI 1 1 rfl
 have hix:(((aR l k).length:Int)-1).toNat=(aR l k).length-1:=by omega
 have hbr:=ach l (aR l k) i;refine aF (aj (mV ?_));refine mO ?_;refine oG (qN cC ?_);refine bB ?_;refine rU (upd (upd (upd (xm l k) 4 (.i (bO l (aR l k) i))) 5 (.i (i:Int))) 9 (.b (decide ((i:Int)<(l.length:Int))))) (Po l k) ?_;refine cD (fun hc0=>?_) fun hc0=>?_
 ·skip;have hf1:=of_decide_eq_true hc0;refine aX (aF (bf (aF ((Bool.eq_false_or_eq_true (((aR l k).length:Int)==0)).elim (fun hg2=>?_) (fun hg2=>?_)))))
  ·skip;have hf3:=(beq_iff_eq).1 hg2;refine (Bool.eq_false_or_eq_true (decide ((bO l (aR l k) i)<0))).elim (fun hg4=>?_) (fun hg4=>?_)
   ·skip;have iy:=of_decide_eq_true hg4;refine Vd 31 [(42,.b true),(41,.b true),(40,.v undef),(39,.v undef),(38,.v undef),(37,.v undef),(36,.v undef),(35,.v undef),(34,.v undef),(33,.v undef),(32,.v undef),(31,.b (decide ((bO l (aR l k) i)<0))),(30,.b (decide ((bO l (aR l k) i)<0))),(29,.i (bO l (aR l k) i)),(28,.b true),(27,.b true),(26,.v undef),(25,.v undef),(24,.v undef),(23,.v undef),(22,.v undef),(21,.v undef),(20,.v undef),(19,.v undef),(18,.v undef),(17,.v undef),(16,.v undef),(15,.b (((aR l k).length:Int)==0)),(14,.b (((aR l k).length:Int)==0)),(13,.i ((aR l k).length:Int)),(12,.sl 1 0 ((aR l k).length))] mixed ?_ ?_
    ·iterate 31 (refine ⟨?_,?_⟩;rotate_left)
     trivial
     ·exact aY
     ·exact dW 13 fun st au hE=>dU rfl rfl rfl rfl cC (eF (hE 12 rfl)) (by rw [au];rfl)
     ·exact sB (.bool (((aR l k).length:Int)==0)) rfl
     ·exact aY
     ·exact Wn hg2
     ·exact Wn hg2
     ·exact Wn hg2
     ·exact Wn hg2
     ·exact Wn hg2
     ·exact Wn hg2
     ·exact Wn hg2
     ·exact Wn hg2
     ·exact Wn hg2
     ·exact Wn hg2
     ·exact Wn hg2
     ·exact lX (((aR l k).length:Int)==0) (.b true) hg2
     ·exact aY
     ·exact dH rfl aY
     ·exact dH rfl (sB (.bool (decide ((bO l (aR l k) i)<0))) rfl)
     ·exact dH rfl aY
     ·exact Wn hg4
     ·exact Wn hg4
     ·exact Wn hg4
     ·exact Wn hg4
     ·exact Wn hg4
     ·exact Wn hg4
     ·exact Wn hg4
     ·exact Wn hg4
     ·exact Wn hg4
     ·exact dH rfl (lX (decide ((bO l (aR l k) i)<0)) (.b true) hg4)
     exact dW 42 fun st au hE=>fF (b:=true) (av:=.b true) rfl rfl rfl (hE 28 rfl) (hE 41 rfl) (by rw [au];rfl)
    refine ak (eP true rfl rfl (fun _=>?_) (fun h=>by cases h));refine bn (mV ?_);refine mV ?_;refine ak (bn (mV ?_));refine oG (qB (.int .i64 ((i+1:Nat):Int)) (addN om) ?_);refine mV ?_;refine ak ?_;show _∧_;refine ⟨by omega,trivial,?_⟩;exact iI 1 1 rfl (he:=(sS rfl (sS (by exact congrArg (fun n_:Int=>AV.v (.int .i64 n_)) (by first|exact (aav (by simp only [fH,Bool.and_eq_true,Bool.or_eq_true,Bool.and_eq_false_iff,Bool.or_eq_false_iff,decide_eq_true_eq,decide_eq_false_iff_not];rw [←hix];omega)).symm|exact (asr (by simp only [fH,Bool.and_eq_true,Bool.or_eq_true,Bool.and_eq_false_iff,Bool.or_eq_false_iff,decide_eq_true_eq,decide_eq_false_iff_not];rw [←hix];omega)).symm)) (sM rfl (sS rfl (sS rfl b_))))))
   have fk:=of_decide_eq_false hg4;refine Vd 31 [(42,.b (decide ((l.getD i 0)<(l.getD (bO l (aR l k) i).toNat 0)))),(41,.b (decide ((l.getD i 0)<(l.getD (bO l (aR l k) i).toNat 0)))),(40,.b (decide ((l.getD i 0)<(l.getD (bO l (aR l k) i).toNat 0)))),(39,.i (l.getD (bO l (aR l k) i).toNat 0)),(38,.rp (([.i (l.getD (bO l (aR l k) i).toNat 0)]:List AV)++((enc eI l).drop (((bO l (aR l k) i).toNat+1)*1)))),(37,.i (bO l (aR l k) i)),(36,.q eI l),(35,.i (l.getD i 0)),(34,.rp (([.i (l.getD i 0)]:List AV)++((enc eI l).drop ((i+1)*1)))),(33,.i (i:Int)),(32,.q eI l),(31,.b (decide ((bO l (aR l k) i)<0))),(30,.b (decide ((bO l (aR l k) i)<0))),(29,.i (bO l (aR l k) i)),(28,.b true),(27,.b true),(26,.v undef),(25,.v undef),(24,.v undef),(23,.v undef),(22,.v undef),(21,.v undef),(20,.v undef),(19,.v undef),(18,.v undef),(17,.v undef),(16,.v undef),(15,.b (((aR l k).length:Int)==0)),(14,.b (((aR l k).length:Int)==0)),(13,.i ((aR l k).length:Int)),(12,.sl 1 0 ((aR l k).length))] mixed ?_ ?_
   ·iterate 31 (refine ⟨?_,?_⟩;rotate_left)
    trivial
    ·exact aY
    ·exact dW 13 fun st au hE=>dU rfl rfl rfl rfl cC (eF (hE 12 rfl)) (by rw [au];rfl)
    ·exact sB (.bool (((aR l k).length:Int)==0)) rfl
    ·exact aY
    ·exact Wn hg2
    ·exact Wn hg2
    ·exact Wn hg2
    ·exact Wn hg2
    ·exact Wn hg2
    ·exact Wn hg2
    ·exact Wn hg2
    ·exact Wn hg2
    ·exact Wn hg2
    ·exact Wn hg2
    ·exact Wn hg2
    ·exact lX (((aR l k).length:Int)==0) (.b true) hg2
    ·exact aY
    ·exact dH rfl aY
    ·exact dH rfl (sB (.bool (decide ((bO l (aR l k) i)<0))) rfl)
    ·exact dH rfl aY
    ·exact bY hg4 aY
    ·exact bY hg4 aY
    ·exact bY hg4 (fJ (0:Int) cC bu)
    ·exact bY hg4 (V3 bq)
    ·exact bY hg4 aY
    ·exact bY hg4 aY
    ·exact bY hg4 (dW 38 fun st au hE=>Wo 0 rfl rfl rfl cC bu (hE 36 rfl) (hE 37 rfl) (fun _=>rfl) rfl om oo (by rw [au];rfl))
    ·exact bY hg4 (V3 bq)
    ·exact bY hg4 (sB (.bool (decide ((l.getD i 0)<(l.getD (bO l (aR l k) i).toNat 0)))) rfl)
    ·exact dH rfl (dW 41 fun st au hE=>fF (b:=(decide ((bO l (aR l k) i)<0))) (av:=.b (decide ((l.getD i 0)<(l.getD (bO l (aR l k) i).toNat 0)))) rfl rfl rfl (hE 31 rfl) (by rw [hg4];exact hE 40 rfl) (by rw [au];rfl))
    exact dW 42 fun st au hE=>fF (b:=true) (av:=.b (decide ((l.getD i 0)<(l.getD (bO l (aR l k) i).toNat 0)))) rfl rfl rfl (hE 28 rfl) (hE 41 rfl) (by rw [au];rfl)
   refine ak (cD (fun hc1=>?_) fun hc1=>?_)
   ·skip;have gJ:=of_decide_eq_true hc1;refine bn (mV ?_);refine mV ?_;refine ak (bn (mV ?_));refine oG (qB (.int .i64 ((i+1:Nat):Int)) (addN om) ?_);refine mV ?_;refine ak ?_;show _∧_;refine ⟨by omega,trivial,?_⟩;exact iI 1 1 rfl (he:=(sS rfl (sS (by exact congrArg (fun n_:Int=>AV.v (.int .i64 n_)) (by first|exact (aav (by simp only [fH,Bool.and_eq_true,Bool.or_eq_true,Bool.and_eq_false_iff,Bool.or_eq_false_iff,decide_eq_true_eq,decide_eq_false_iff_not];rw [←hix];omega)).symm|exact (asr (by simp only [fH,Bool.and_eq_true,Bool.or_eq_true,Bool.and_eq_false_iff,Bool.or_eq_false_iff,decide_eq_true_eq,decide_eq_false_iff_not];rw [←hix];omega)).symm)) (sM rfl (sS rfl (sS rfl b_))))))
   have iU:=of_decide_eq_false hc1;refine aX (bn (mV ?_));refine oG (qB (.int .i64 ((i+1:Nat):Int)) (addN om) ?_);refine mV ?_;refine ak ?_;show _∧_;refine ⟨by omega,trivial,?_⟩;exact iI 1 1 rfl (he:=(sS rfl (sS (by exact congrArg (fun n_:Int=>AV.v (.int .i64 n_)) (by first|exact (aav (by simp only [fH,Bool.and_eq_true,Bool.or_eq_true,Bool.and_eq_false_iff,Bool.or_eq_false_iff,decide_eq_true_eq,decide_eq_false_iff_not];rw [←hix];omega)).symm|exact (asr (by simp only [fH,Bool.and_eq_true,Bool.or_eq_true,Bool.and_eq_false_iff,Bool.or_eq_false_iff,decide_eq_true_eq,decide_eq_false_iff_not];rw [←hix];omega)).symm)) (sM rfl (sS rfl (sS rfl b_))))))
  have mL:=(beq_eq_false_iff_ne).1 hg2;refine (Bool.eq_false_or_eq_true (decide ((l.getD i 0)>((aR l k).getD ((((aR l k).length:Int)-1).toNat) 0)))).elim (fun gg=>?_) (fun gg=>?_)
  ·skip;have lJ:=of_decide_eq_true gg;refine (Bool.eq_false_or_eq_true (decide ((bO l (aR l k) i)<0))).elim (fun dz=>?_) (fun dz=>?_)
   ·skip;have mD:=of_decide_eq_true dz;refine Vd 31 [(42,.b true),(41,.b true),(40,.v undef),(39,.v undef),(38,.v undef),(37,.v undef),(36,.v undef),(35,.v undef),(34,.v undef),(33,.v undef),(32,.v undef),(31,.b (decide ((bO l (aR l k) i)<0))),(30,.b (decide ((bO l (aR l k) i)<0))),(29,.i (bO l (aR l k) i)),(28,.b (decide ((l.getD i 0)>((aR l k).getD ((((aR l k).length:Int)-1).toNat) 0)))),(27,.b (decide ((l.getD i 0)>((aR l k).getD ((((aR l k).length:Int)-1).toNat) 0)))),(26,.b (decide ((l.getD i 0)>((aR l k).getD ((((aR l k).length:Int)-1).toNat) 0)))),(25,.i ((aR l k).getD ((((aR l k).length:Int)-1).toNat) 0)),(24,.pt 1 ((((aR l k).length:Int)-1).toNat*1)),(23,.i (((aR l k).length:Int)-1)),(22,.i ((aR l k).length:Int)),(21,.sl 1 0 ((aR l k).length)),(20,.sl 1 0 ((aR l k).length)),(19,.i (l.getD i 0)),(18,.rp (([.i (l.getD i 0)]:List AV)++((enc eI l).drop ((i+1)*1)))),(17,.i (i:Int)),(16,.q eI l),(15,.b (((aR l k).length:Int)==0)),(14,.b (((aR l k).length:Int)==0)),(13,.i ((aR l k).length:Int)),(12,.sl 1 0 ((aR l k).length))] mixed ?_ ?_
    ·iterate 31 (refine ⟨?_,?_⟩;rotate_left)
     trivial
     ·exact aY
     ·exact dW 13 fun st au hE=>dU rfl rfl rfl rfl cC (eF (hE 12 rfl)) (by rw [au];rfl)
     ·exact sB (.bool (((aR l k).length:Int)==0)) rfl
     ·exact aY
     ·exact bY hg2 aY
     ·exact bY hg2 aY
     ·exact bY hg2 (fJ (0:Int) cC bu)
     ·exact bY hg2 (V3 bq)
     ·exact bY hg2 aY
     ·exact bY hg2 aY
     ·exact bY hg2 (dW 22 fun st au hE=>dU rfl rfl rfl rfl cC (eF (hE 21 rfl)) (by rw [au];rfl))
     ·exact bY hg2 (sB (.int .i64 (((aR l k).length:Int)-1)) (mE om))
     ·exact bY hg2 (dW 24 fun st au hE=>aac rfl rfl rfl cC bu (hE 20 rfl) (hE 23 rfl) om oo (by rw [au];rfl))
     ·exact bY hg2 (dW 25 fun st au hE=>oW (f:=eI) (l:=aR l k) 0 rfl rfl rfl bq (hE 24 rfl) (by rw [au];rfl) rfl (fun _=>rfl) oo rfl (by rw [au];rfl))
     ·exact bY hg2 (sB (.bool (decide ((l.getD i 0)>((aR l k).getD ((((aR l k).length:Int)-1).toNat) 0)))) rfl)
     ·exact dW 27 fun st au hE=>fF (b:=(((aR l k).length:Int)==0)) (av:=.b (decide ((l.getD i 0)>((aR l k).getD ((((aR l k).length:Int)-1).toNat) 0)))) rfl rfl rfl (hE 15 rfl) (by rw [hg2];exact hE 26 rfl) (by rw [au];rfl)
     ·exact aY
     ·exact dH gg aY
     ·exact dH gg (sB (.bool (decide ((bO l (aR l k) i)<0))) rfl)
     ·exact dH gg aY
     ·exact Wn dz
     ·exact Wn dz
     ·exact Wn dz
     ·exact Wn dz
     ·exact Wn dz
     ·exact Wn dz
     ·exact Wn dz
     ·exact Wn dz
     ·exact Wn dz
     ·exact dH gg (lX (decide ((bO l (aR l k) i)<0)) (.b true) dz)
     exact dW 42 fun st au hE=>fF (b:=(decide ((l.getD i 0)>((aR l k).getD ((((aR l k).length:Int)-1).toNat) 0)))) (av:=.b true) rfl rfl rfl (hE 28 rfl) (by rw [gg];exact hE 41 rfl) (by rw [au];rfl)
    refine ak (eP true rfl rfl (fun _=>?_) (fun h=>by cases h));refine bn (mV ?_);refine mV ?_;refine ak (bn (mV ?_));refine oG (qB (.int .i64 ((i+1:Nat):Int)) (addN om) ?_);refine mV ?_;refine ak ?_;show _∧_;refine ⟨by omega,trivial,?_⟩;exact iI 1 1 rfl (he:=(sS rfl (sS (by exact congrArg (fun n_:Int=>AV.v (.int .i64 n_)) (by first|exact (aav (by simp only [fH,Bool.and_eq_true,Bool.or_eq_true,Bool.and_eq_false_iff,Bool.or_eq_false_iff,decide_eq_true_eq,decide_eq_false_iff_not];rw [←hix];omega)).symm|exact (asr (by simp only [fH,Bool.and_eq_true,Bool.or_eq_true,Bool.and_eq_false_iff,Bool.or_eq_false_iff,decide_eq_true_eq,decide_eq_false_iff_not];rw [←hix];omega)).symm)) (sM rfl (sS rfl (sS rfl b_))))))
   have nR:=of_decide_eq_false dz;refine Vd 31 [(42,.b (decide ((l.getD i 0)<(l.getD (bO l (aR l k) i).toNat 0)))),(41,.b (decide ((l.getD i 0)<(l.getD (bO l (aR l k) i).toNat 0)))),(40,.b (decide ((l.getD i 0)<(l.getD (bO l (aR l k) i).toNat 0)))),(39,.i (l.getD (bO l (aR l k) i).toNat 0)),(38,.rp (([.i (l.getD (bO l (aR l k) i).toNat 0)]:List AV)++((enc eI l).drop (((bO l (aR l k) i).toNat+1)*1)))),(37,.i (bO l (aR l k) i)),(36,.q eI l),(35,.i (l.getD i 0)),(34,.rp (([.i (l.getD i 0)]:List AV)++((enc eI l).drop ((i+1)*1)))),(33,.i (i:Int)),(32,.q eI l),(31,.b (decide ((bO l (aR l k) i)<0))),(30,.b (decide ((bO l (aR l k) i)<0))),(29,.i (bO l (aR l k) i)),(28,.b (decide ((l.getD i 0)>((aR l k).getD ((((aR l k).length:Int)-1).toNat) 0)))),(27,.b (decide ((l.getD i 0)>((aR l k).getD ((((aR l k).length:Int)-1).toNat) 0)))),(26,.b (decide ((l.getD i 0)>((aR l k).getD ((((aR l k).length:Int)-1).toNat) 0)))),(25,.i ((aR l k).getD ((((aR l k).length:Int)-1).toNat) 0)),(24,.pt 1 ((((aR l k).length:Int)-1).toNat*1)),(23,.i (((aR l k).length:Int)-1)),(22,.i ((aR l k).length:Int)),(21,.sl 1 0 ((aR l k).length)),(20,.sl 1 0 ((aR l k).length)),(19,.i (l.getD i 0)),(18,.rp (([.i (l.getD i 0)]:List AV)++((enc eI l).drop ((i+1)*1)))),(17,.i (i:Int)),(16,.q eI l),(15,.b (((aR l k).length:Int)==0)),(14,.b (((aR l k).length:Int)==0)),(13,.i ((aR l k).length:Int)),(12,.sl 1 0 ((aR l k).length))] mixed ?_ ?_
   ·iterate 31 (refine ⟨?_,?_⟩;rotate_left)
    trivial
    ·exact aY
    ·exact dW 13 fun st au hE=>dU rfl rfl rfl rfl cC (eF (hE 12 rfl)) (by rw [au];rfl)
    ·exact sB (.bool (((aR l k).length:Int)==0)) rfl
    ·exact aY
    ·exact bY hg2 aY
    ·exact bY hg2 aY
    ·exact bY hg2 (fJ (0:Int) cC bu)
    ·exact bY hg2 (V3 bq)
    ·exact bY hg2 aY
    ·exact bY hg2 aY
    ·exact bY hg2 (dW 22 fun st au hE=>dU rfl rfl rfl rfl cC (eF (hE 21 rfl)) (by rw [au];rfl))
    ·exact bY hg2 (sB (.int .i64 (((aR l k).length:Int)-1)) (mE om))
    ·exact bY hg2 (dW 24 fun st au hE=>aac rfl rfl rfl cC bu (hE 20 rfl) (hE 23 rfl) om oo (by rw [au];rfl))
    ·exact bY hg2 (dW 25 fun st au hE=>oW (f:=eI) (l:=aR l k) 0 rfl rfl rfl bq (hE 24 rfl) (by rw [au];rfl) rfl (fun _=>rfl) oo rfl (by rw [au];rfl))
    ·exact bY hg2 (sB (.bool (decide ((l.getD i 0)>((aR l k).getD ((((aR l k).length:Int)-1).toNat) 0)))) rfl)
    ·exact dW 27 fun st au hE=>fF (b:=(((aR l k).length:Int)==0)) (av:=.b (decide ((l.getD i 0)>((aR l k).getD ((((aR l k).length:Int)-1).toNat) 0)))) rfl rfl rfl (hE 15 rfl) (by rw [hg2];exact hE 26 rfl) (by rw [au];rfl)
    ·exact aY
    ·exact dH gg aY
    ·exact dH gg (sB (.bool (decide ((bO l (aR l k) i)<0))) rfl)
    ·exact dH gg aY
    ·exact bY dz aY
    ·exact bY dz aY
    ·exact bY dz (fJ (0:Int) cC bu)
    ·exact bY dz (V3 bq)
    ·exact bY dz aY
    ·exact bY dz aY
    ·exact bY dz (dW 38 fun st au hE=>Wo 0 rfl rfl rfl cC bu (hE 36 rfl) (hE 37 rfl) (fun _=>rfl) rfl om oo (by rw [au];rfl))
    ·exact bY dz (V3 bq)
    ·exact bY dz (sB (.bool (decide ((l.getD i 0)<(l.getD (bO l (aR l k) i).toNat 0)))) rfl)
    ·exact dH gg (dW 41 fun st au hE=>fF (b:=(decide ((bO l (aR l k) i)<0))) (av:=.b (decide ((l.getD i 0)<(l.getD (bO l (aR l k) i).toNat 0)))) rfl rfl rfl (hE 31 rfl) (by rw [dz];exact hE 40 rfl) (by rw [au];rfl))
    exact dW 42 fun st au hE=>fF (b:=(decide ((l.getD i 0)>((aR l k).getD ((((aR l k).length:Int)-1).toNat) 0)))) (av:=.b (decide ((l.getD i 0)<(l.getD (bO l (aR l k) i).toNat 0)))) rfl rfl rfl (hE 28 rfl) (by rw [gg];exact hE 41 rfl) (by rw [au];rfl)
   refine ak (cD (fun hc1=>?_) fun hc1=>?_)
   ·skip;have r8:=of_decide_eq_true hc1;refine bn (mV ?_);refine mV ?_;refine ak (bn (mV ?_));refine oG (qB (.int .i64 ((i+1:Nat):Int)) (addN om) ?_);refine mV ?_;refine ak ?_;show _∧_;refine ⟨by omega,trivial,?_⟩;exact iI 1 1 rfl (he:=(sS rfl (sS (by exact congrArg (fun n_:Int=>AV.v (.int .i64 n_)) (by first|exact (aav (by simp only [fH,Bool.and_eq_true,Bool.or_eq_true,Bool.and_eq_false_iff,Bool.or_eq_false_iff,decide_eq_true_eq,decide_eq_false_iff_not];rw [←hix];omega)).symm|exact (asr (by simp only [fH,Bool.and_eq_true,Bool.or_eq_true,Bool.and_eq_false_iff,Bool.or_eq_false_iff,decide_eq_true_eq,decide_eq_false_iff_not];rw [←hix];omega)).symm)) (sM rfl (sS rfl (sS rfl b_))))))
   have v5:=of_decide_eq_false hc1;refine aX (bn (mV ?_));refine oG (qB (.int .i64 ((i+1:Nat):Int)) (addN om) ?_);refine mV ?_;refine ak ?_;show _∧_;refine ⟨by omega,trivial,?_⟩;exact iI 1 1 rfl (he:=(sS rfl (sS (by exact congrArg (fun n_:Int=>AV.v (.int .i64 n_)) (by first|exact (aav (by simp only [fH,Bool.and_eq_true,Bool.or_eq_true,Bool.and_eq_false_iff,Bool.or_eq_false_iff,decide_eq_true_eq,decide_eq_false_iff_not];rw [←hix];omega)).symm|exact (asr (by simp only [fH,Bool.and_eq_true,Bool.or_eq_true,Bool.and_eq_false_iff,Bool.or_eq_false_iff,decide_eq_true_eq,decide_eq_false_iff_not];rw [←hix];omega)).symm)) (sM rfl (sS rfl (sS rfl b_))))))
  have v4:=of_decide_eq_false gg;refine Vd 31 [(42,.b false),(41,.v undef),(40,.v undef),(39,.v undef),(38,.v undef),(37,.v undef),(36,.v undef),(35,.v undef),(34,.v undef),(33,.v undef),(32,.v undef),(31,.v undef),(30,.v undef),(29,.v undef),(28,.b (decide ((l.getD i 0)>((aR l k).getD ((((aR l k).length:Int)-1).toNat) 0)))),(27,.b (decide ((l.getD i 0)>((aR l k).getD ((((aR l k).length:Int)-1).toNat) 0)))),(26,.b (decide ((l.getD i 0)>((aR l k).getD ((((aR l k).length:Int)-1).toNat) 0)))),(25,.i ((aR l k).getD ((((aR l k).length:Int)-1).toNat) 0)),(24,.pt 1 ((((aR l k).length:Int)-1).toNat*1)),(23,.i (((aR l k).length:Int)-1)),(22,.i ((aR l k).length:Int)),(21,.sl 1 0 ((aR l k).length)),(20,.sl 1 0 ((aR l k).length)),(19,.i (l.getD i 0)),(18,.rp (([.i (l.getD i 0)]:List AV)++((enc eI l).drop ((i+1)*1)))),(17,.i (i:Int)),(16,.q eI l),(15,.b (((aR l k).length:Int)==0)),(14,.b (((aR l k).length:Int)==0)),(13,.i ((aR l k).length:Int)),(12,.sl 1 0 ((aR l k).length))] mixed ?_ ?_
  ·iterate 31 (refine ⟨?_,?_⟩;rotate_left)
   trivial
   ·exact aY
   ·exact dW 13 fun st au hE=>dU rfl rfl rfl rfl cC (eF (hE 12 rfl)) (by rw [au];rfl)
   ·exact sB (.bool (((aR l k).length:Int)==0)) rfl
   ·exact aY
   ·exact bY hg2 aY
   ·exact bY hg2 aY
   ·exact bY hg2 (fJ (0:Int) cC bu)
   ·exact bY hg2 (V3 bq)
   ·exact bY hg2 aY
   ·exact bY hg2 aY
   ·exact bY hg2 (dW 22 fun st au hE=>dU rfl rfl rfl rfl cC (eF (hE 21 rfl)) (by rw [au];rfl))
   ·exact bY hg2 (sB (.int .i64 (((aR l k).length:Int)-1)) (mE om))
   ·exact bY hg2 (dW 24 fun st au hE=>aac rfl rfl rfl cC bu (hE 20 rfl) (hE 23 rfl) om oo (by rw [au];rfl))
   ·exact bY hg2 (dW 25 fun st au hE=>oW (f:=eI) (l:=aR l k) 0 rfl rfl rfl bq (hE 24 rfl) (by rw [au];rfl) rfl (fun _=>rfl) oo rfl (by rw [au];rfl))
   ·exact bY hg2 (sB (.bool (decide ((l.getD i 0)>((aR l k).getD ((((aR l k).length:Int)-1).toNat) 0)))) rfl)
   ·exact dW 27 fun st au hE=>fF (b:=(((aR l k).length:Int)==0)) (av:=.b (decide ((l.getD i 0)>((aR l k).getD ((((aR l k).length:Int)-1).toNat) 0)))) rfl rfl rfl (hE 15 rfl) (by rw [hg2];exact hE 26 rfl) (by rw [au];rfl)
   ·exact aY
   ·exact dX gg
   ·exact dX gg
   ·exact dX gg
   ·exact ⟨31,undef,rfl,aS rfl,rfl,(fun h=>by cases h),(fun _=>⟨32,rfl,aS rfl,.inr rfl⟩)⟩
   ·exact ⟨31,undef,rfl,aS rfl,rfl,(fun h=>by cases h),(fun _=>⟨33,rfl,aS rfl,.inr rfl⟩)⟩
   ·exact ⟨31,undef,rfl,aS rfl,rfl,(fun h=>by cases h),(fun _=>⟨34,rfl,aS rfl,.inr rfl⟩)⟩
   ·exact ⟨31,undef,rfl,aS rfl,rfl,(fun h=>by cases h),(fun _=>⟨35,rfl,aS rfl,.inr rfl⟩)⟩
   ·exact ⟨31,undef,rfl,aS rfl,rfl,(fun h=>by cases h),(fun _=>⟨36,rfl,aS rfl,.inr rfl⟩)⟩
   ·exact ⟨31,undef,rfl,aS rfl,rfl,(fun h=>by cases h),(fun _=>⟨37,rfl,aS rfl,.inr rfl⟩)⟩
   ·exact ⟨31,undef,rfl,aS rfl,rfl,(fun h=>by cases h),(fun _=>⟨38,rfl,aS rfl,.inr rfl⟩)⟩
   ·exact ⟨31,undef,rfl,aS rfl,rfl,(fun h=>by cases h),(fun _=>⟨39,rfl,aS rfl,.inr rfl⟩)⟩
   ·exact ⟨31,undef,rfl,aS rfl,rfl,(fun h=>by cases h),(fun _=>⟨40,rfl,aS rfl,.inr rfl⟩)⟩
   ·exact dX gg
   exact lX (decide ((l.getD i 0)>((aR l k).getD ((((aR l k).length:Int)-1).toNat) 0))) (.b false) gg
  refine ak (eP false rfl rfl (fun h=>by cases h) (fun _=>?_));refine aX (bn (mV ?_));refine oG (qB (.int .i64 ((i+1:Nat):Int)) (addN om) ?_);refine mV ?_;refine ak ?_;show _∧_;refine ⟨by omega,trivial,?_⟩;exact iI 1 1 rfl (he:=(sS rfl (sS (by exact congrArg (fun n_:Int=>AV.v (.int .i64 n_)) (by first|exact (aav (by simp only [fH,Bool.and_eq_true,Bool.or_eq_true,Bool.and_eq_false_iff,Bool.or_eq_false_iff,decide_eq_true_eq,decide_eq_false_iff_not];rw [←hix];omega)).symm|exact (asr (by simp only [fH,Bool.and_eq_true,Bool.or_eq_true,Bool.and_eq_false_iff,Bool.or_eq_false_iff,decide_eq_true_eq,decide_eq_false_iff_not];rw [←hix];omega)).symm)) (sM rfl (sS rfl (sS rfl b_))))))
 have nQ:=of_decide_eq_false hc0;have hie:i=l.length:=by omega
 refine VJ (aF (aj (mV ?_)));refine bB ?_;refine ak (cD (fun hc2=>?_) fun hc2=>?_)
 ·skip;have pE:=of_decide_eq_true hc2;have hb2:bO l (aR l k) l.length<0:=by rw [←hie];exact of_decide_eq_true hc2
  refine aj (mS ?_);refine mS ?_;refine rU (upd (upd (upd (upd (upd none_ 0 (.q eI l)) 2 (.sl 1 0 ((aR l k).length))) 3 (.sl 1 0 ((aR l k).length))) 4 (.i (bO l (aR l k) i))) 5 (.i (i:Int))) (Po l k) ?_;refine VA _ (Wx rfl (fun _ h=>h) (dJ 2 (.q eI (aR l k)) (W8 (id:=1) (n:=(aR l k).length) (o:=⟨(enc eI (aR l k)),3,1⟩) rfl (WH (fun _=>rfl) (by first|rfl|(simp;done)))) Wy)) ?_;exact aZ (bg (av:=.ro ((aR l k).length) (enc eI (aR l k))) rfl rfl (by rw [Gi hk1 hb2]))
 have r6:=of_decide_eq_false hc2;have VT:¬bO l (aR l k) l.length<0:=by rw [←hie];exact of_decide_eq_false hc2
 refine aX (bn (mS ?_));refine mO ?_;refine mV ?_;refine oG (Wo 0 rfl rfl rfl cC bu rfl rfl (fun _=>rfl) rfl om oo ?_);refine oV bq ?_;refine oG (V_ rfl rfl rfl cC kf (by decide) (by decide) rfl rfl ?_);refine oG (gU (f:=eI) (l:=aR l k) 52 (l.getD (bO l (aR l k) i).toNat 0:Int) rfl rfl rfl rfl cC sG rfl (by decide) rfl rfl rfl rfl rfl rfl (fun _=>rfl) rfl rfl oo oo rfl ?_);refine mS ?_;refine ak ?_;show _∧_;have hs_:=aeJ VT;rw [←hie] at hs_;refine ⟨by omega,(aeD hk1 VT),?_⟩;exact iI 52 1 (o:=⟨(enc eI ((aR l k)++[(l.getD (bO l (aR l k) i).toNat 0:Int)])),3,1⟩) rfl (he:=(sM (by exact congrArg (AV.sl 1 0) (congrArg List.length hs_.symm)) (sS rfl (sS rfl b_)))) (WG:=(by exact congrArg (fun l_=>aC.mk (enc eI l_) 3 1) hs_))
abbrev sV (s e p:Int):Nat→aH:=(U4 (U4 U5 51 (.live ⟨[.i s,.i e],124,1⟩)) 52 (.live ⟨[.i p,.one],124,1⟩))
abbrev DF (a:List aP) (c:List aD) (s e:Int):AV:=(.rp (([.i ((a.getD (aV a (U6 c s e)).toNat dP).node),.i ((a.getD (aV a (U6 c s e)).toNat dP).stem),.i ((a.getD (aV a (U6 c s e)).toNat dP).left),.i ((a.getD (aV a (U6 c s e)).toNat dP).right)]:List AV)++((enc aJ a).drop (((aV a (U6 c s e)).toNat+1)*4))))
abbrev lY (c:List aD) (a:List aP):AV:=(.rp [.one,.q aN c,.one,.q aJ a,.one,.one,.one,.one,.one,.one])
abbrev sW (c:List aD) (a:List aP):Nat→AV:=(upd (upd none_ 0 (lY c a)) 4 (.pt 51 0))
theorem Js (c:List aD) (a:List aP) (s e p:Int) (hs:c.length≤65536) (hp:a.length≤65536):Fn Tryz.prog 98 [.rp [.one,.q aN c,.one,.q aJ a,.one,.one,.one,.one,.one,.one],.agg [.v (.int .i64 s),.v (.int .i64 e)],.agg [.v (.int .i64 p),.one]] (.q eN (W9 c a s e p)):=by
 refine bL (N:=51) Tryz.func98 rfl rfl (bM rfl) (by simp) (fun w0 X Pk=>?_);refine aj (oG (qW 51 ?_));refine oG (qW 52 ?_);refine mV ?_;refine ak (aj (mR ?_));refine oG (cZ [.i s,.i e] fT db ?_);refine oG (qC (Ba c s e oo) BM ?_);refine mG (.Vm [.i (U6 c s e),.b (!dD c s e)]) ?_;refine oG (qE ?_);refine oG (qE ?_);refine mV ?_;refine mV ?_;refine rU (upd (upd (upd (sW c a) 5 (.pt 52 0)) 6 vN) 7 (.i (U6 c s e))) (sV s e p) ?_;refine aj (mR ?_);refine mV ?_;refine oG (qC (Aw a (U6 c s e) oo) BN ?_);refine mV ?_;refine rU (upd (upd (upd (sW c a) 5 (.pt 52 0)) 6 vN) 9 (.i (aV a (U6 c s e)))) (sV s e p) ?_;refine aF (aj (mV ?_));refine bB ?_;refine ak (cD (fun hc0=>?_) fun hc0=>?_)
 ·skip;have hf1:=of_decide_eq_true hc0;have hi:aV a (U6 c s e)<0:=by omega
  refine aj (mV ?_);refine ak (VA _ (Wx rfl (fun _ h=>h) (dJ 6 (.ro 0 []) .nil Wy)) ?_);exact aZ (bg (av:=.ro 0 []) rfl rfl (by rw [H9 hi];rfl))
 have hf2:=of_decide_eq_false hc0;have hi:¬aV a (U6 c s e)<0:=by omega
 have XC:=PK a (U6 c s e);refine aX (aj (fG (.pt 52 0) gv bu ?_));refine oV bq ?_;refine mV ?_;refine rU (upd (upd (upd (sW c a) 6 vN) 9 (.i (aV a (U6 c s e)))) 10 (.i p)) (sV s e p) ?_;refine aF (aj (mR ?_));refine oG (VV rfl rfl rfl rfl rfl ?_);refine oG (qF (lY c a) (lY c a) mf dj ?_);refine oG (qF (lY c a) (.rp [.q aJ a,.one,.one,.one,.one,.one,.one]) gA fI ?_);refine oO il ?_;refine mV ?_;refine oG (Wo dP rfl rfl rfl gb im rfl rfl (fun _=>rfl) rfl om oo ?_);refine oG (qF (DF a c s e) (.rp (([.i ((a.getD (aV a (U6 c s e)).toNat dP).stem),.i ((a.getD (aV a (U6 c s e)).toNat dP).left),.i ((a.getD (aV a (U6 c s e)).toNat dP).right)]:List AV)++((enc aJ a).drop (((aV a (U6 c s e)).toNat+1)*4)))) kJ bu ?_);refine oV bq ?_;refine mV ?_;refine bB ?_;refine rU (upd (upd (upd (upd (sW c a) 6 vN) 9 (.i (aV a (U6 c s e)))) 10 (.i p)) 34 (.b (((a.getD (aV a (U6 c s e)).toNat dP).stem)==p))) (sV s e p) ?_;refine pF ⟨(upd (upd (upd (upd none_ 0 (lY c a)) 6 vN) 9 (.i (aV a (U6 c s e)))) 10 (.i (if (a.getD (aV a (U6 c s e)).toNat dP).stem=p then s else p))),U5⟩ (fun s h=>h) ?_ ?_
 ·skip;refine cD (fun hc1=>?_) fun hc1=>?_
  ·skip;have hf3:=(beq_iff_eq).1 hc1;refine bn (fG (.pt 51 0) gv bu ?_);refine oV bq ?_;refine mV ?_;refine ak ?_;show Vv _ _ _;exact iN (he:=(sS (by exact congrArg (fun n_:Int=>AV.v (.int .i64 n_)) (by first|exact (if_pos (by simpa using hc1)).symm|exact (if_neg (by simpa using hc1)).symm)) (sS rfl (sS rfl (sS rfl b_)))))
  have eA:=(beq_eq_false_iff_ne).1 hc1;refine aX ?_;show Vv _ _ _;exact iN (he:=(sS (by exact congrArg (fun n_:Int=>AV.v (.int .i64 n_)) (by first|exact (if_pos (by simpa using hc1)).symm|exact (if_neg (by simpa using hc1)).symm)) (sS rfl (sS rfl (sS rfl b_)))))
 refine aj (mV ?_);refine mR ?_;refine oG (VV rfl rfl rfl rfl rfl ?_);refine oG (qF (lY c a) (lY c a) mf dj ?_);refine oG (qF (lY c a) (.rp [.q aJ a,.one,.one,.one,.one,.one,.one]) gA fI ?_);refine oO il ?_;refine mV ?_;refine oG (Wo dP rfl rfl rfl gb im rfl rfl (fun _=>rfl) rfl om oo ?_);refine oG (qF (DF a c s e) (.rp (([.i ((a.getD (aV a (U6 c s e)).toNat dP).right)]:List AV)++((enc aJ a).drop (((aV a (U6 c s e)).toNat+1)*4)))) o4 bu ?_);refine oV bq ?_;refine mV ?_;refine bB ?_;refine oG (qD Md ?_);refine oG (V_ rfl rfl rfl fh Ce (by decide) (by decide) rfl rfl ?_);refine mO ?_;refine rU (upd none_ 6 (.ro 1 [.i (aV a (U6 c s e)),.b (((a.getD (aV a (U6 c s e)).toNat dP).right)==(if (a.getD (aV a (U6 c s e)).toNat dP).stem=p then s else p))])) U5 ?_;exact aZ (bg (av:=.ro 1 [.v (.int .i64 (aV a (U6 c s e))),.v (.bool (((a.getD (aV a (U6 c s e)).toNat dP).right)==(if (a.getD (aV a (U6 c s e)).toNat dP).stem=p then s else p)))]) rfl rfl (by rw [Hf hi rfl rfl];rfl))
theorem Jt (x g:Int):Fn Tryz.prog 97 [.agg [.v (.int .i64 x),.one],.rp [.v (.int .i64 g)]] (.v (.bool (decide (x=g)))):=by
 refine bL (N:=8) Tryz.func97 rfl rfl (bM rfl) (by simp) (fun w0 X Pk=>?_);refine aj (oG (qW 51 ?_));refine mV ?_;refine ak (aj (fG (.pt 51 0) gv bu ?_));refine oV bq ?_;refine oV bq ?_;refine bB ?_;refine mV ?_;refine rU (upd none_ 3 (.b (x==g))) (U4 U5 51 (.live ⟨[.i x,.one],124,1⟩)) ?_;exact aZ (bg (av:=.v (.bool (x==g))) rfl rfl (by rfl))
abbrev xn (l:List En) (s:Int):Nat→AV:=(upd (upd (upd none_ 0 (.q Vl l)) 1 (.fn 97 [.rp [.i s]])) 4 (.i 0))
theorem KG (l:List En) (s:Int) (hl:l.length≤4294967296):Fn Tryz.prog 96 [.q Vl l,.fn 97 [.rp [.v (.int .i64 s)]]] (.v (.int .i64 (bX (fun x:En=>decide (x.sec=s)) l))):=by
 refine bL (N:=19) Tryz.func96 rfl rfl (bM rfl) (by simp) (fun w0 X Pk=>?_);refine aj (mV ?_);refine ak (aF (aj (mO ?_)));refine oG (qN cR ?_);refine mV ?_;refine rU (upd (upd (xn l s) 7 (.i (l.length:Int))) 8 (.i 0)) U5 ?_;refine bf (cB (fun k=>⟨(upd (upd (xn l s) 7 (.i (l.length:Int))) 8 (.i (k:Int))),U5⟩) (fun k=>(l.take k).any (fun x:En=>decide (x.sec=s))=false) (l.length) ?_ (by simp) (fun k c9 hinv=>?_))
 ·skip;exact iN
 refine aj (bB ?_);refine ak (aF (cD (fun hc0=>?_) fun hc0=>?_))
 ·skip;have hf1:=of_decide_eq_true hc0;refine aX (aF (bf (aj (mV ?_))));refine mV ?_;refine ak (aj (mG (.fn 97 [.rp [.i s]]) ?_));refine mO ?_;refine mV ?_;refine oG (qX dE cR db ?_);refine oG (cZ [.i ((l.getD k dE).sec),.i ((l.getD k dE).en)] fT db ?_);refine oG (qC (Jt ((l.getD k dE).sec) s) Mb ?_);refine rU (upd (upd (upd (upd (xn l s) 5 (.i (k:Int))) 7 (.i (l.length:Int))) 8 (.i (k:Int))) 16 (.b (decide (((l.getD k dE).sec)=s)))) U5 ?_;refine cD (fun hc1=>?_) fun hc1=>?_
  ·skip;refine aj (mV ?_);refine mV ?_;exact ak (aZ (bg (av:=.v (.int .i64 (k:Int))) rfl rfl (by rw [fO (f:=fun x:En=>decide (x.sec=s)) dE om hinv hc1]<;>rfl)))
  refine aX (bn (oG (qB (.int .i64 ((k+1:Nat):Int)) (addN om) ?_)));refine mV ?_;refine ak ?_;show _∧_;refine ⟨by omega,(fQ dE om hinv hc1),?_⟩;exact iN
 have hf2:=of_decide_eq_false hc0;refine VJ (aj (mV ?_));exact ak (aZ (bg (av:=.v (.int .i64 (-1))) rfl rfl (by rw [X2 (f:=fun x:En=>decide (x.sec=s)) om hinv]<;>rfl)))
abbrev sX (a:List aD) (c:List aP) (d:List Int) (s e:Int) (k:Nat):List AV:=[.i ((Vj a c d ⟨s,e,[]⟩ k).s),.i ((Vj a c d ⟨s,e,[]⟩ k).e)]
abbrev DG (a:List aD) (c:List aP) (d:List Int) (s e:Int) (k:Nat):List AV:=[.i (((Vn a c ((Vj a c d ⟨s,e,[]⟩ k).s) ((Vj a c d ⟨s,e,[]⟩ k).e)).getD (aso a c (Vj a c d ⟨s,e,[]⟩ k).s (Vj a c d ⟨s,e,[]⟩ k).e (d.getD k 0)).toNat dE).en)]
abbrev DI (d:List Int) (k:Nat) (a:List aD) (c:List aP) (s e:Int):List AV:=[.i (d.getD k 0),.i (1-(((Vn a c ((Vj a c d ⟨s,e,[]⟩ k).s) ((Vj a c d ⟨s,e,[]⟩ k).e)).getD (aso a c (Vj a c d ⟨s,e,[]⟩ k).s (Vj a c d ⟨s,e,[]⟩ k).e (d.getD k 0)).toNat dE).en))]
abbrev qc (a:List aD) (c:List aP) (d:List Int) (s e:Int) (k:Nat):List AV:=(enc Vl (Vn a c ((Vj a c d ⟨s,e,[]⟩ k).s) ((Vj a c d ⟨s,e,[]⟩ k).e)))
abbrev sY (a:List aD) (c:List aP):List AV:=[.one,.q aN a,.one,.q aJ c,.one,.one,.one,.one,.one,.one]
abbrev xo (a:List aD) (c:List aP) (d:List Int) (s e:Int) (k:Nat):Nat→aH:=(U4 (U4 U5 1 (.live ⟨(enc eN ((Vj a c d ⟨s,e,[]⟩ k).ns)),95,2⟩)) 2 (.live ⟨(sX a c d s e k),124,1⟩))
abbrev xp (a:List aD) (c:List aP) (d:List Int) (s e:Int) (k:Nat):AV:=(.q Vl (Vn a c ((Vj a c d ⟨s,e,[]⟩ k).s) ((Vj a c d ⟨s,e,[]⟩ k).e)))
abbrev sZ (a:List aD) (c:List aP) (d:List Int) (s e:Int) (k:Nat):Nat→AV:=(upd (upd (upd (upd (upd none_ 0 (.rp (sY a c))) 4 (.pt 2 0)) 6 vN) 7 (.b false)) 8 (.sl 1 0 ((Vj a c d ⟨s,e,[]⟩ k).ns.length)))
abbrev qd (a:List aD) (c:List aP) (d:List Int) (s e:Int) (k:Nat):Nat→aH:=(U4 (U4 (xo a c d s e k) 53 (.live ⟨[.i 0],3,1⟩)) 53 (.live ⟨[.i (d.getD k 0)],3,1⟩))
abbrev qe (a:List aD) (c:List aP) (d:List Int) (s e:Int) (k:Nat):List AV:=[.i (((Vn a c ((Vj a c d ⟨s,e,[]⟩ k).s) ((Vj a c d ⟨s,e,[]⟩ k).e)).getD (aso a c (Vj a c d ⟨s,e,[]⟩ k).s (Vj a c d ⟨s,e,[]⟩ k).e (d.getD k 0)).toNat dE).sec),.i (((Vn a c ((Vj a c d ⟨s,e,[]⟩ k).s) ((Vj a c d ⟨s,e,[]⟩ k).e)).getD (aso a c (Vj a c d ⟨s,e,[]⟩ k).s (Vj a c d ⟨s,e,[]⟩ k).e (d.getD k 0)).toNat dE).en)]
abbrev DJ (a:List aD) (c:List aP) (d:List Int) (s e:Int) (k:Nat):Nat→AV:=(upd (upd (upd (upd (upd (upd (sZ a c d s e k) 10 (.pt 53 0)) 11 (xp a c d s e k)) 12 (.i (aso a c (Vj a c d ⟨s,e,[]⟩ k).s (Vj a c d ⟨s,e,[]⟩ k).e (d.getD k 0)))) 13 (.q eI d)) 14 (.i (d.length:Int))) 15 (.i (k:Int)))
theorem KH (a:List aD) (c:List aP) (s e:Int) (d:List Int) (hs:a.length≤65536) (hp:c.length≤65536) (hpl:d.length≤65536):Fn Tryz.prog 74 [.rp [.one,.q aN a,.one,.q aJ c,.one,.one,.one,.one,.one,.one],.agg [.v (.int .i64 s),.v (.int .i64 e)],.q eI d] (.Vm [.q eN (jq a c s e d),.v (.bool (XY a c s e d))]):=by
 refine bL (N:=46) Tryz.func74 rfl rfl (Yp rfl) (by simp) (fun w0 X Pk=>?_);refine aj (oG (qW 51 ?_));refine mV ?_;refine mV ?_;refine ak (aj (mV ?_));refine rU (upd (upd (upd (upd (upd (upd none_ 0 (.rp (sY a c))) 2 (.q eI d)) 4 (.pt 51 0)) 6 vN) 7 (.b false)) 8 vN) (U4 U5 51 (.live ⟨[.i s,.i e],124,1⟩)) ?_;refine aF (aj (mO ?_));refine oG (qN cC ?_);refine mV ?_;refine ak (bf (cB (fun k=>⟨(upd (upd (upd (sZ a c d s e k) 13 (.q eI d)) 14 (.i (d.length:Int))) 15 (.i (k:Int))),(xo a c d s e k)⟩) (fun k=>gM a c (d.drop k) (Vj a c d ⟨s,e,[]⟩ k)=gN a c s e d) (d.length) ?_ rfl (fun k c9 hinv=>?_)))
 ·skip;refine (iH 8 52 95 2 rfl rfl).trans ?_;exact iL [(52,1),(51,2)] [((52,1),.live _),((51,2),.live _)] ⟨U9 (o:=⟨[],95,2⟩) rfl rfl,U9 rfl rfl,trivial⟩
 have hwl:=agt (secs:=a) (pts:=c) (path:=d) ⟨s,e,[]⟩ rfl k;have hal:=af3 a c (Vj a c d ⟨s,e,[]⟩ k).s (Vj a c d ⟨s,e,[]⟩ k).e;have hnl:=aeK (secs:=a) (pts:=c) (s:=(Vj a c d ⟨s,e,[]⟩ k).s) (e:=(Vj a c d ⟨s,e,[]⟩ k).e) (p:=((Vn a c (Vj a c d ⟨s,e,[]⟩ k).s (Vj a c d ⟨s,e,[]⟩ k).e).getD (aso a c (Vj a c d ⟨s,e,[]⟩ k).s (Vj a c d ⟨s,e,[]⟩ k).e (d.getD k 0)).toNat dE).sec);refine aj (bB ?_);refine ak (aF (cD (fun hc0=>?_) fun hc0=>?_))
 ·skip;have hf1:=of_decide_eq_true hc0;refine aX (aF (bf (aj (oG (qX (0:Int) cC bu ?_)))));refine oV bq ?_;refine oG (WW 53 rfl rfl rfl rfl DD rfl ?_);refine oG (qS bu ?_);refine rU (upd (upd (upd (upd (sZ a c d s e k) 10 (.pt 53 0)) 13 (.q eI d)) 14 (.i (d.length:Int))) 15 (.i (k:Int))) (qd a c d s e k) ?_;refine aj (mR ?_);refine oG (cZ (sX a c d s e k) fT db ?_);refine oG (qJ (Hd a c ((Vj a c d ⟨s,e,[]⟩ k).s) ((Vj a c d ⟨s,e,[]⟩ k).e) oo oo) Ma ?_);refine mO ?_;refine rU (upd (upd (upd (upd (upd (sZ a c d s e k) 10 (.pt 53 0)) 11 (xp a c d s e k)) 13 (.q eI d)) 14 (.i (d.length:Int))) 15 (.i (k:Int))) (qd a c d s e k) ?_;refine aj (mO ?_);refine oG (kC (caps:=[.tmp 10]) rfl rfl rfl rfl ?_);refine oG (f_ (show Fn Tryz.prog 96 [.q Vl (Vn a c ((Vj a c d ⟨s,e,[]⟩ k).s) ((Vj a c d ⟨s,e,[]⟩ k).e)),.fn 97 [.rp [.i (d.getD k 0)]]] (.i (aso a c (Vj a c d ⟨s,e,[]⟩ k).s (Vj a c d ⟨s,e,[]⟩ k).e (d.getD k 0))) from (by have h_:=KG (Vn a c (Vj a c d ⟨s,e,[]⟩ k).s (Vj a c d ⟨s,e,[]⟩ k).e) (d.getD k 0) om;exact h_)) rfl rfl rfl rfl rfl Cp (Vb (dF (av:=.q Vl (Vn a c ((Vj a c d ⟨s,e,[]⟩ k).s) ((Vj a c d ⟨s,e,[]⟩ k).e)))) (Vb (kH lT) fP)) ?_);refine mV ?_;refine rU (DJ a c d s e k) (qd a c d s e k) ?_;refine aF (aj (mV ?_));refine bB ?_;refine ak (cD (fun hc1=>?_) fun hc1=>?_)
  ·skip;have hf2:=of_decide_eq_true hc1;have hO:=H_ om hinv (show (aso a c (Vj a c d ⟨s,e,[]⟩ k).s (Vj a c d ⟨s,e,[]⟩ k).e (d.getD k 0))<0 by omega);refine aj (mV ?_);refine mV ?_;refine rU (DJ a c d s e k) (qd a c d s e k) ?_;refine VA _ (Wx rfl (fun _ h=>h) (dJ 7 (.b false) (dF (av:=.b false)) (dJ 6 (.ro 0 []) .nil Wy))) ?_;exact aZ (bg (av:=.Vm [.ro 0 [],.v (.bool false)]) rfl rfl (by rw [(zZ hO).1,(zZ hO).2];rfl))
  have hf3:=of_decide_eq_false hc1;have hns:¬(aso a c (Vj a c d ⟨s,e,[]⟩ k).s (Vj a c d ⟨s,e,[]⟩ k).e (d.getD k 0))<0:=by omega
  have hxo:=aeR (secs:=a) (pts:=c) (p:=d.getD k 0) (w:=(Vj a c d ⟨s,e,[]⟩ k)) hns;have hx1:((Vn a c (Vj a c d ⟨s,e,[]⟩ k).s (Vj a c d ⟨s,e,[]⟩ k).e).getD (aso a c (Vj a c d ⟨s,e,[]⟩ k).s (Vj a c d ⟨s,e,[]⟩ k).e (d.getD k 0)).toNat dE).en=0∨((Vn a c (Vj a c d ⟨s,e,[]⟩ k).s (Vj a c d ⟨s,e,[]⟩ k).e).getD (aso a c (Vj a c d ⟨s,e,[]⟩ k).s (Vj a c d ⟨s,e,[]⟩ k).e (d.getD k 0)).toNat dE).en=1:=hxo.1;have hx3:=hxo.2.2;refine aX (aF (Vd 8 [(34,.q eN (W9 a c ((Vj a c d ⟨s,e,[]⟩ k).s) ((Vj a c d ⟨s,e,[]⟩ k).e) (((Vn a c ((Vj a c d ⟨s,e,[]⟩ k).s) ((Vj a c d ⟨s,e,[]⟩ k).e)).getD (aso a c (Vj a c d ⟨s,e,[]⟩ k).s (Vj a c d ⟨s,e,[]⟩ k).e (d.getD k 0)).toNat dE).sec))),(33,.agg (qe a c d s e k)),(32,.rp (((qe a c d s e k):List AV)++((qc a c d s e k).drop (((aso a c (Vj a c d ⟨s,e,[]⟩ k).s (Vj a c d ⟨s,e,[]⟩ k).e (d.getD k 0)).toNat+1)*2)))),(31,.i (aso a c (Vj a c d ⟨s,e,[]⟩ k).s (Vj a c d ⟨s,e,[]⟩ k).e (d.getD k 0))),(30,.q Vl (Vn a c ((Vj a c d ⟨s,e,[]⟩ k).s) ((Vj a c d ⟨s,e,[]⟩ k).e))),(29,.agg (sX a c d s e k)),(28,.rp (sY a c)),(27,.sl 1 0 ((Vj a c d ⟨s,e,[]⟩ k).ns.length))] mixed ?_ ?_))
  ·refine ⟨?_,?_,?_,?_,?_,?_,?_,?_,trivial⟩
   ·exact aY
   ·exact aY
   ·exact Ys (sX a c d s e k) fT db
   ·exact aY
   ·exact aY
   ·exact dW 32 fun st au hE=>Wo dE rfl rfl rfl cR db (hE 30 rfl) (hE 31 rfl) (fun _=>rfl) rfl om oo (by rw [au];rfl)
   ·exact dW 33 fun st au hE=>ny (cells':=(qe a c d s e k)) rfl rfl rfl fT db (hE 32 rfl) rfl rfl rfl (by rw [au];rfl)
   exact sC (Js a c ((Vj a c d ⟨s,e,[]⟩ k).s) ((Vj a c d ⟨s,e,[]⟩ k).e) (((Vn a c ((Vj a c d ⟨s,e,[]⟩ k).s) ((Vj a c d ⟨s,e,[]⟩ k).e)).getD (aso a c (Vj a c d ⟨s,e,[]⟩ k).s (Vj a c d ⟨s,e,[]⟩ k).e (d.getD k 0)).toNat dE).sec) oo oo) Mc
  refine oG (kF (f:=eN) (l:=(Vj a c d ⟨s,e,[]⟩ k).ns) (l2:=W9 a c ((Vj a c d ⟨s,e,[]⟩ k).s) ((Vj a c d ⟨s,e,[]⟩ k).e) (((Vn a c ((Vj a c d ⟨s,e,[]⟩ k).s) ((Vj a c d ⟨s,e,[]⟩ k).e)).getD (aso a c (Vj a c d ⟨s,e,[]⟩ k).s (Vj a c d ⟨s,e,[]⟩ k).e (d.getD k 0)).toNat dE).sec)) 54 rfl rfl rfl rfl fh Cd rfl (by decide) rfl rfl rfl rfl rfl rfl (fun _=>rfl) rfl rfl rfl oo oo rfl ?_);refine mS ?_;refine ak (rT (upd (upd (upd (upd (upd (upd (upd (upd (upd (upd (upd none_ 0 (.rp (sY a c))) 4 (.pt 2 0)) 6 vN) 7 (.b false)) 8 (.sl 54 0 ((((Vj a c d ⟨s,e,[]⟩ k).ns)++(W9 a c ((Vj a c d ⟨s,e,[]⟩ k).s) ((Vj a c d ⟨s,e,[]⟩ k).e) (((Vn a c ((Vj a c d ⟨s,e,[]⟩ k).s) ((Vj a c d ⟨s,e,[]⟩ k).e)).getD (aso a c (Vj a c d ⟨s,e,[]⟩ k).s (Vj a c d ⟨s,e,[]⟩ k).e (d.getD k 0)).toNat dE).sec))).length))) 10 (.pt 53 0)) 11 (xp a c d s e k)) 12 (.i (aso a c (Vj a c d ⟨s,e,[]⟩ k).s (Vj a c d ⟨s,e,[]⟩ k).e (d.getD k 0)))) 13 (.q eI d)) 14 (.i (d.length:Int))) 15 (.i (k:Int))) (U4 (U4 (qd a c d s e k) 1 .dead) 54 (.live ⟨(enc eN (((Vj a c d ⟨s,e,[]⟩ k).ns)++(W9 a c ((Vj a c d ⟨s,e,[]⟩ k).s) ((Vj a c d ⟨s,e,[]⟩ k).e) (((Vn a c ((Vj a c d ⟨s,e,[]⟩ k).s) ((Vj a c d ⟨s,e,[]⟩ k).e)).getD (aso a c (Vj a c d ⟨s,e,[]⟩ k).s (Vj a c d ⟨s,e,[]⟩ k).e (d.getD k 0)).toNat dE).sec)))),95,2⟩)) ?_);refine Vd 8 [(43,.agg (DI d k a c s e)),(42,.i (1-(((Vn a c ((Vj a c d ⟨s,e,[]⟩ k).s) ((Vj a c d ⟨s,e,[]⟩ k).e)).getD (aso a c (Vj a c d ⟨s,e,[]⟩ k).s (Vj a c d ⟨s,e,[]⟩ k).e (d.getD k 0)).toNat dE).en))),(41,.i (((Vn a c ((Vj a c d ⟨s,e,[]⟩ k).s) ((Vj a c d ⟨s,e,[]⟩ k).e)).getD (aso a c (Vj a c d ⟨s,e,[]⟩ k).s (Vj a c d ⟨s,e,[]⟩ k).e (d.getD k 0)).toNat dE).en)),(40,.rp (((DG a c d s e k):List AV)++((qc a c d s e k).drop (((aso a c (Vj a c d ⟨s,e,[]⟩ k).s (Vj a c d ⟨s,e,[]⟩ k).e (d.getD k 0)).toNat+1)*2)))),(39,.rp (((qe a c d s e k):List AV)++((qc a c d s e k).drop (((aso a c (Vj a c d ⟨s,e,[]⟩ k).s (Vj a c d ⟨s,e,[]⟩ k).e (d.getD k 0)).toNat+1)*2)))),(38,.i (aso a c (Vj a c d ⟨s,e,[]⟩ k).s (Vj a c d ⟨s,e,[]⟩ k).e (d.getD k 0))),(37,.q Vl (Vn a c ((Vj a c d ⟨s,e,[]⟩ k).s) ((Vj a c d ⟨s,e,[]⟩ k).e))),(36,.i (d.getD k 0))] mixed ?_ ?_
  ·refine ⟨?_,?_,?_,?_,?_,?_,?_,?_,trivial⟩
   ·exact sL bq
   ·exact aY
   ·exact aY
   ·exact dW 39 fun st au hE=>Wo dE rfl rfl rfl cR db (hE 37 rfl) (hE 38 rfl) (fun _=>rfl) rfl om oo (by rw [au];rfl)
   ·exact sF (.rp (((qe a c d s e k):List AV)++((qc a c d s e k).drop (((aso a c (Vj a c d ⟨s,e,[]⟩ k).s (Vj a c d ⟨s,e,[]⟩ k).e (d.getD k 0)).toNat+1)*2)))) (.rp (((DG a c d s e k):List AV)++((qc a c d s e k).drop (((aso a c (Vj a c d ⟨s,e,[]⟩ k).s (Vj a c d ⟨s,e,[]⟩ k).e (d.getD k 0)).toNat+1)*2)))) md bu
   ·exact (V3 bq)
   ·exact sB (.int .i64 (1-(((Vn a c ((Vj a c d ⟨s,e,[]⟩ k).s) ((Vj a c d ⟨s,e,[]⟩ k).e)).getD (aso a c (Vj a c d ⟨s,e,[]⟩ k).s (Vj a c d ⟨s,e,[]⟩ k).e (d.getD k 0)).toNat dE).en))) (mE om)
   exact dW 43 fun st au hE=>kE rfl rfl rfl lF (by simp only [WL,List.map,aO,hE 36 rfl,hE 42 rfl];rfl) (by rw [au];rfl)
  refine oG (qS db ?_);refine ak (bn (oG (qB (.int .i64 ((k+1:Nat):Int)) (addN om) ?_)));refine mV ?_;refine ak ?_;show _∧_;refine ⟨by omega,(Ia om hinv hns),?_⟩;exact iL [(54,1),(2,2)] [((54,1),.live _),((2,2),.live _)] ⟨U9 rfl rfl,U9 (o:=⟨(DI d k a c s e),124,1⟩) rfl rfl,trivial⟩
 have eA:=of_decide_eq_false hc0;have hO:=Ju om hinv;refine VJ (aj (mS ?_));refine mS ?_;refine mV ?_;refine rU (upd (upd none_ 6 (.sl 1 0 ((Vj a c d ⟨s,e,[]⟩ k).ns.length))) 7 (.b true)) (xo a c d s e k) ?_;refine VA _ (Wx rfl (fun _ h=>h) (dJ 7 (.b true) (dF (av:=.b true)) (dJ 6 (.q eN ((Vj a c d ⟨s,e,[]⟩ k).ns)) (W8 (id:=1) (n:=(Vj a c d ⟨s,e,[]⟩ k).ns.length) (o:=⟨(enc eN ((Vj a c d ⟨s,e,[]⟩ k).ns)),95,2⟩) rfl (WH (fun _=>rfl) (by first|rfl|(simp;done)))) Wy))) ?_;exact aZ (bg (av:=.Vm [.q eN ((Vj a c d ⟨s,e,[]⟩ k).ns),.v (.bool true)]) rfl rfl (by rw [(uD hO).1,(uD hO).2]))
abbrev xq:List AV:=[.ro 0 [],.v (.bool false)]
abbrev xr (c:List aD) (d:List aP):List AV:=[.one,.q aN c,.one,.q aJ d,.one,.one,.one,.one,.one,.one]
abbrev xt (c:List aD) (d:List aP) (a:List Int) (j:Nat):AV:=(.q eN (jq c d (a.getD 0 0) (j:Int) (a.drop 1)))
abbrev qf (c:List aD) (d:List aP) (a:List Int):Nat→AV:=(upd (upd (upd (upd none_ 0 (.rp (xr c d))) 1 (.q eI a)) 4 vN) 5 (.b false))
abbrev DK (c:List aD) (d:List aP) (a:List Int) (k:Nat):Nat→AV:=(upd (upd (upd (upd (upd (qf c d a) 6 (.i (k:Int))) 7 (.i (a.getD k 0))) 14 (.q eI a)) 15 (.i (a.length:Int))) 16 (.i (k:Int)))
theorem vd (c:List aD) (d:List aP) (a:List Int) (hs:c.length≤65536) (hp:d.length≤65536) (hpl:a.length≤65536):Fn Tryz.prog 44 [.rp [.one,.q aN c,.one,.q aJ d,.one,.one,.one,.one,.one,.one],.q eI a] (.Vm [.q eN (Vh c d a),.v (.bool (Xw c d a))]):=by
 refine bL (N:=45) Tryz.func44 rfl rfl (Yp rfl) (by simp) (fun w0 X Pk=>?_);refine aj (mV ?_);refine mV ?_;refine ak (aF (aj (mO ?_)));refine oG (qN cC ?_);refine bB ?_;refine rU (upd (qf c d a) 13 (.b (decide ((a.length:Int)<2)))) U5 ?_;refine cD (fun hc0=>?_) fun hc0=>?_
 ·skip;have hf1:=of_decide_eq_true hc0;have hp2:=uE (secs:=c) (pts:=d) (path:=a) om;refine aj (mV ?_);refine mV ?_;refine ak (VA _ (Wx rfl (fun _ h=>h) (dJ 5 (.b false) (dF (av:=.b false)) (dJ 4 (.ro 0 []) .nil Wy))) ?_);exact aZ (bg (av:=.Vm xq) rfl rfl (by rw [hp2.1,hp2.2];rfl))
 have hf2:=of_decide_eq_false hc0;have hp2:¬a.length<2:=by omega
 refine aX (aF (aj (mO ?_)));refine oG (qN cC ?_);refine mV ?_;refine ak (bf (cB (fun k=>⟨(upd (upd (upd (qf c d a) 14 (.q eI a)) 15 (.i (a.length:Int))) 16 (.i (k:Int))),U5⟩) (fun k=>(a.take k).Nodup) (a.length) ?_ (by simp) (fun k c9 hinv=>?_)))
 ·skip;exact iN
 refine aj (bB ?_);refine ak (aF (cD (fun hc1=>?_) fun hc1=>?_))
 ·skip;have hf3:=of_decide_eq_true hc1;refine aX (aF (bf (aj (mV ?_))));refine oG (qX (0:Int) cC bu ?_);refine oV bq ?_;refine mV ?_;refine mV ?_;refine rU (DK c d a k) U5 ?_;refine aj (mO ?_);refine mV ?_;refine oG (ZG (l:=0) (hgh:=k) (cells':=enc eI (a.take k)) ((a.take k)).length rfl rfl rfl cC bu rfl rfl ⟨_,rfl⟩ om oo (acs (f:=eI) (fun _=>rfl) _ 0 _) (by simp;omega) ?_);refine mV ?_;refine oG (qJ (xl (a.take k) (a.getD k 0) oo) wh ?_);refine rU (upd (DK c d a k) 25 (.b (decide ((a.getD k 0)∈(a.take k))))) U5 ?_;refine cD (fun hc2=>?_) fun hc2=>?_
  ·skip;have DL:=Jv (secs:=c) (pts:=d) (Hg (path:=a) (k:=k) om (of_decide_eq_true hc2));refine aj (mV ?_);refine mV ?_;refine ak (VA _ (Wx rfl (fun _ h=>h) (dJ 5 (.b false) (dF (av:=.b false)) (dJ 4 (.ro 0 []) .nil Wy))) ?_);exact aZ (bg (av:=.Vm xq) rfl rfl (by rw [DL.1,DL.2];rfl))
  have hnm:¬a.getD k 0∈a.take k:=of_decide_eq_false hc2;refine aX (bn (oG (qB (.int .i64 ((k+1:Nat):Int)) (addN om) ?_)));refine mV ?_;refine ak ?_;show _∧_;refine ⟨by omega,(Gj om hinv hnm),?_⟩;exact iN
 have eA:=of_decide_eq_false hc1;have hnd:a.Nodup:=by rw [List.take_of_length_le om] at hinv;exact hinv
 refine VJ (aF (aj (mV ?_)));refine ak (bf (cB (fun j=>⟨(upd (qf c d a) 27 (.i (j:Int))),U5⟩) (fun j=>∀oz,oz<j→XY c d (a.getD 0 0) (oz:Int) (a.drop 1)=false) (2) ?_ (fun _ h=>by omega) (fun j mF hinv=>?_)))
 ·skip;exact iN
 refine aj (bB ?_);refine ak (aF (cD (fun hc3=>?_) fun hc3=>?_))
 ·skip;have iy:=of_decide_eq_true hc3;refine aX (aF (bf (aj (mV ?_))));refine mV ?_;refine ak (aF (Vd 13 [(9,.q eN (jq c d (a.getD 0 0) (j:Int) (a.drop 1))),(41,.b (XY c d (a.getD 0 0) (j:Int) (a.drop 1))),(40,.q eN (jq c d (a.getD 0 0) (j:Int) (a.drop 1))),(30,.Vm [.q eN (jq c d (a.getD 0 0) (j:Int) (a.drop 1)),.b (XY c d (a.getD 0 0) (j:Int) (a.drop 1))]),(39,.Vm [.q eN (jq c d (a.getD 0 0) (j:Int) (a.drop 1)),.b (XY c d (a.getD 0 0) (j:Int) (a.drop 1))]),(38,.q eI (a.drop 1)),(37,.q eI a),(36,.agg [.i (a.getD 0 0),.i (j:Int)]),(35,.i (j:Int)),(34,.i (a.getD 0 0)),(33,.rp (([.i (a.getD 0 0)]:List AV)++((enc eI a).drop ((0+1)*1)))),(32,.q eI a),(31,.rp (xr c d))] mixed ?_ ?_))
  ·iterate 13 (refine ⟨?_,?_⟩;rotate_left)
   trivial
   ·exact aY
   ·exact aY
   ·exact dW 33 fun st au hE=>aaw (k:=0) 0 rfl rfl rfl cC bu (hE 32 rfl) rfl (fun _=>rfl) rfl oo (by rw [au];rfl)
   ·exact (V3 bq)
   ·exact aY
   ·exact dW 36 fun st au hE=>kE rfl rfl rfl lF (by simp only [WL,List.map,aO,hE 34 rfl,hE 35 rfl];rfl) (by rw [au];rfl)
   ·exact aY
   ·exact dW 38 fun st au hE=>ZG (l:=1) (hgh:=a.length) (cells':=enc eI (a.drop 1)) ((a.drop 1)).length rfl rfl rfl cC bu (hE 37 rfl) ⟨_,rfl⟩ rfl oo oo (Pt (f:=eI) (fun _=>rfl) _ _ _ rfl) qG (by rw [au];rfl)
   ·exact dW 39 fun st au hE=>call_ (KH c d (a.getD 0 0) (j:Int) (a.drop 1) oo oo oo) rfl rfl rfl rfl rfl L_ (by show [st.env 31,st.env 36,st.env 38]++_=_;rw [hE 31 rfl,hE 36 rfl,hE 38 rfl];rfl) (by rw [au];rfl)
   ·exact aY
   ·exact jr
   ·exact jr
   exact aY
  refine mV ?_;refine ak (rT (upd (upd (upd (upd (qf c d a) 8 (.i (j:Int))) 9 (xt c d a j)) 10 (.b (XY c d (a.getD 0 0) (j:Int) (a.drop 1)))) 27 (.i (j:Int))) U5 ?_);refine aj (mV ?_);refine ak (cD (fun hc4=>?_) fun hc4=>?_)
  ·skip;have hpa:=KI hp2 hnd om hinv hc4;refine aj (mO ?_);refine mO ?_;refine mV ?_;refine rU (upd (upd (upd (upd (upd (upd (upd (upd none_ 0 (.rp (xr c d))) 1 (.q eI a)) 4 (xt c d a j)) 5 (.b true)) 8 (.i (j:Int))) 9 (xt c d a j)) 10 (.b (XY c d (a.getD 0 0) (j:Int) (a.drop 1)))) 27 (.i (j:Int))) U5 ?_;exact aZ (bg (av:=.Vm [.q eN (jq c d (a.getD 0 0) (j:Int) (a.drop 1)),.v (.bool true)]) rfl rfl (by rw [hpa.1,hpa.2]))
  refine aX (bn (oG (qB (.int .i64 ((j+1:Nat):Int)) (addN om) ?_)));refine mV ?_;refine ak ?_;show _∧_;refine ⟨by omega,(fun oz h=>by rcases Nat.lt_or_ge oz j with h2|h2;exact hinv oz h2;rw [show oz=j by omega];exact hc4),?_⟩;exact iN
 have fk:=of_decide_eq_false hc3;have hpe:=Jw (secs:=c) (pts:=d) hp2 hnd om hinv;refine VJ (aj (mV ?_));refine mV ?_;refine ak (VA _ (Wx rfl (fun _ h=>h) (dJ 5 (.b false) (dF (av:=.b false)) (dJ 4 (.ro 0 []) .nil Wy))) ?_);exact aZ (bg (av:=.Vm xq) rfl rfl (by rw [hpe.1,hpe.2];rfl))
theorem se:V0 Tryz.prog 41=some false:=by kernel_rfl
theorem Me:V0 Tryz.prog 76=some true:=by kernel_rfl
theorem KJ:Vp Tryz.prog 103=true:=by kernel_rfl
theorem KL:Vp Tryz.prog 104=true:=by kernel_rfl
theorem Mf:Vp Tryz.prog 75=true:=by kernel_rfl
theorem Mg:Vp Tryz.prog 76=true:=by kernel_rfl
theorem Cr:Vp Tryz.prog 77=true:=by kernel_rfl
theorem Mh:Vp Tryz.prog 78=true:=by kernel_rfl
theorem Cs:Vp Tryz.prog 79=true:=by kernel_rfl
theorem wi:Vp Tryz.prog 80=true:=by kernel_rfl
theorem Mi:Vp Tryz.prog 81=true:=by kernel_rfl
theorem Mj:Vp Tryz.prog 82=true:=by kernel_rfl
theorem Mk:Vp Tryz.prog 99=true:=by kernel_rfl
theorem Jx:VZ Tryz.prog 76 2=some (57,2):=by kernel_rfl
theorem Ct:(Tryz.prog.info? 76).map (·.size)=some 3:=by kernel_rfl
theorem Cu:Tryz.prog.underlying 77=some (.slice 76):=by kernel_rfl
theorem Ib (l:List Int) (s:Int) (hl:l.length≤4294967296):Fn Tryz.prog 104 [.q eI l,.rp [.v (.int .i64 s)]] (.v (.bool (decide (s∈l)))):=by
 refine bL (N:=7) Tryz.func104 rfl rfl (bM rfl) (by simp) (fun w0 X Pk=>?_);refine aj (mV ?_);refine ak (aj (mO ?_));refine oV bq ?_;refine oG (qJ (xl l s oo) wh ?_);refine mV ?_;refine rU (upd none_ 3 (.b (decide (s∈l)))) U5 ?_;exact aZ (bg (av:=.v (.bool (decide (s∈l)))) rfl rfl rfl)
abbrev xu (a:List (List Int)) (s:Int):Nat→AV:=(upd (upd (upd none_ 0 (.q O5 a)) 1 (.fn 104 [.rp [.i s]])) 4 (.i 0))
theorem Ml (a:List (List Int)) (s:Int) (hp:a.length≤65536) (hpl:∀x,x∈a→x.length≤65536):Fn Tryz.prog 103 [.q O5 a,.fn 104 [.rp [.v (.int .i64 s)]]] (.v (.int .i64 (dG a s))):=by
 refine bL (N:=19) Tryz.func103 rfl rfl (bM rfl) (by simp) (fun w0 X Pk=>?_);refine aj (mV ?_);refine ak (aF (aj (mO ?_)));refine oG (qN fj ?_);refine mV ?_;refine rU (upd (upd (xu a s) 7 (.i (a.length:Int))) 8 (.i 0)) U5 ?_;refine bf (cB (fun k=>⟨(upd (upd (xu a s) 7 (.i (a.length:Int))) 8 (.i (k:Int))),U5⟩) (fun k=>(a.take k).any (fun l=>decide (s∈l))=false) (a.length) ?_ (by simp) (fun k c9 hinv=>?_))
 ·skip;exact iN
 refine aj (bB ?_);refine ak (aF (cD (fun hc0=>?_) fun hc0=>?_))
 ·skip;have hf1:=of_decide_eq_true hc0;have hpk:=hpl _ (VR (l:=a) (k:=k) [] om);refine aX (aF (bf (aj (mV ?_))));refine mV ?_;refine ak (aj (mG (.fn 104 [.rp [.i s]]) ?_));refine mO ?_;refine mV ?_;refine oG (qX [] fj j7 ?_);refine oO lL ?_;refine oG (qJ (Ib (a.getD k []) s oo) KL ?_);refine rU (upd (upd (upd (upd (xu a s) 5 (.i (k:Int))) 7 (.i (a.length:Int))) 8 (.i (k:Int))) 16 (.b (decide (s∈(a.getD k []))))) U5 ?_;refine cD (fun hc1=>?_) fun hc1=>?_
  ·skip;refine aj (mV ?_);refine mV ?_;exact ak (aZ (bg (av:=.v (.int .i64 (k:Int))) rfl rfl (by unfold dG;rw [fO [] om hinv hc1]<;>rfl)))
  refine aX (bn (oG (qB (.int .i64 ((k+1:Nat):Int)) (addN om) ?_)));refine mV ?_;refine ak ?_;show _∧_;refine ⟨by omega,(fQ [] om hinv hc1),?_⟩;exact iN
 have hf2:=of_decide_eq_false hc0;refine VJ (aj (mV ?_));exact ak (aZ (bg (av:=.v (.int .i64 (-1))) rfl rfl (by unfold dG;rw [X2 om hinv]<;>rfl)))
abbrev s3 (a:List (List Int)):AV:=(.rp [.one,.one,.q O5 a,.one,.one,.one,.one,.one,.one,.one])
theorem Jy (a:List (List Int)) (s:Int) (hp:a.length≤65536) (hpl:∀x,x∈a→x.length≤65536):Fn Tryz.prog 86 [.rp [.one,.one,.q O5 a,.one,.one,.one,.one,.one,.one,.one],.v (.int .i64 s)] (.v (.int .i64 (dG a s))):=by
 refine bL (N:=14) Tryz.func86 rfl rfl (bM rfl) (by simp) (fun w0 X Pk=>?_);refine aj (oG (qW 51 ?_));refine mV ?_;refine ak (aF (aj (mR ?_)));refine oG (PI rfl rfl rfl wd rfl rfl rfl (.inl ⟨rfl,rfl⟩) ?_);refine rU (upd (upd (upd (upd none_ 0 (s3 a)) 3 (.pt 51 0)) 4 (.i 0)) 6 (.b false)) (U4 U5 51 (.live ⟨[.i s],3,1⟩)) ?_;refine eP false rfl rfl (fun h=>by cases h) (fun _=>?_);refine aX (aj (mR ?_));refine oG (VV rfl rfl rfl rfl rfl ?_);refine oG (qF (s3 a) (s3 a) mf dj ?_);refine oG (qF (s3 a) (.rp [.q O5 a,.one,.one,.one,.one,.one,.one,.one]) kK eQ ?_);refine oO gF ?_;refine oG (kC (caps:=[.tmp 3]) rfl rfl rfl rfl ?_);refine oG (f_ (Ml a s hp hpl) rfl rfl rfl rfl rfl KJ (Vb (dF (av:=.q O5 a)) (Vb (kH lT) fP)) ?_);refine mV ?_;refine rU (upd none_ 4 (.i (dG a s))) (U4 U5 51 (.live ⟨[.i s],3,1⟩)) ?_;exact aZ (bg (av:=.v (.int .i64 (dG a s))) rfl rfl rfl)
theorem Ic (p:Int) (r:Bool) (a:List Bool) (hl:a.length≤4294967296):Fn Tryz.prog 78 [.agg [.v (.int .i64 p),.v (.bool r)],.q eB a] (.v (.bool (hasB a p != r))):=by
 refine bL (N:=12) Tryz.func78 rfl rfl (bM rfl) (by simp) (fun w0 X Pk=>?_);refine aj (oG (qW 51 ?_));refine mV ?_;refine ak (aF (Vd 7 [(11,.b ((hasB a p) != r)),(10,.b r),(9,.pt 51 1),(8,.b (hasB a p)),(7,.i p),(6,.pt 51 0),(5,.q eB a)] mixed ?_ ?_))
 ·refine ⟨?_,?_,?_,?_,?_,?_,?_,trivial⟩
  ·exact aY
  ·exact sF (.pt 51 0) (.pt 51 0) mj bu
  ·exact sL bq
  ·exact dW 8 fun st au hE=>call_ (vB a p oo) rfl rfl rfl rfl rfl wi (by show [st.env 5,st.env 7]++_=_;rw [hE 5 rfl,hE 7 rfl];rfl) (by rw [au];rfl)
  ·exact sF (.pt 51 0) (.pt 51 1) A6 gI
  ·exact sL jN
  exact dW 11 fun st au hE=>adn rfl rfl rfl (hE 8 rfl) (hE 10 rfl) sE (by rw [au];rfl)
 refine mV ?_;exact ak (aZ (bg (av:=.v (.bool ((hasB a p) != r))) rfl rfl rfl))
theorem z2 (p:Int) (r:Bool) (a:List Bool) (hl:a.length≤4294967296):Fn Tryz.prog 77 [.agg [.v (.int .i64 p),.v (.bool r)],.rp [.q eB a]] (.v (.bool (!(hasB a p != r)))):=by
 refine bL (N:=8) Tryz.func77 rfl rfl (bM rfl) (by simp) (fun w0 X Pk=>?_);refine aj (oG (qW 51 ?_));refine mV ?_;refine ak (aj (oG (cZ [.i p,.b r] lI fx ?_)));refine oO se ?_;refine oG (qJ (Ic p r a oo) Mh ?_);refine oG (gV rfl rfl rfl rfl ?_);refine mV ?_;refine rU (upd none_ 3 (.b (!(hasB a p != r)))) (U4 U5 51 (.live ⟨[.i p,.b r],95,1⟩)) ?_;exact aZ (bg (av:=.v (.bool (!(hasB a p != r)))) rfl rfl rfl)
abbrev xv (l:List Need) (a:List Bool):Nat→AV:=(upd (upd (upd none_ 0 (.q eN l)) 1 (.fn 77 [.rp [.q eB a]])) 4 (.i 0))
theorem Ie (l:List Need) (a:List Bool) (hl:l.length≤4294967296) (hr:a.length≤4294967296):Fn Tryz.prog 79 [.q eN l,.fn 77 [.rp [.q eB a]]] (.v (.int .i64 (bX (WX a) l))):=by
 refine bL (N:=19) Tryz.func79 rfl rfl (bM rfl) (by simp) (fun w0 X Pk=>?_);refine aj (mV ?_);refine ak (aF (aj (mO ?_)));refine oG (qN fh ?_);refine mV ?_;refine rU (upd (upd (xv l a) 7 (.i (l.length:Int))) 8 (.i 0)) U5 ?_;refine bf (cB (fun k=>⟨(upd (upd (xv l a) 7 (.i (l.length:Int))) 8 (.i (k:Int))),U5⟩) (fun k=>(l.take k).any (WX a)=false) (l.length) ?_ (by simp) (fun k c9 hinv=>?_))
 ·skip;exact iN
 refine aj (bB ?_);refine ak (aF (cD (fun hc0=>?_) fun hc0=>?_))
 ·skip;have hf1:=of_decide_eq_true hc0;refine aX (aF (bf (aj (mV ?_))));refine mV ?_;refine ak (aj (mG (.fn 77 [.rp [.q eB a]]) ?_));refine mO ?_;refine mV ?_;refine oG (qX dN fh fx ?_);refine oG (cZ [.i ((l.getD k dN).point),.b ((l.getD k dN).right)] lI fx ?_);refine oG (qJ (z2 ((l.getD k dN).point) ((l.getD k dN).right) a oo) Cr ?_);refine rU (upd (upd (upd (upd (xv l a) 5 (.i (k:Int))) 7 (.i (l.length:Int))) 8 (.i (k:Int))) 16 (.b (!(hasB a ((l.getD k dN).point) != ((l.getD k dN).right))))) U5 ?_;refine cD (fun hc1=>?_) fun hc1=>?_
  ·skip;refine aj (mV ?_);refine mV ?_;exact ak (aZ (bg (av:=.v (.int .i64 (k:Int))) rfl rfl (by rw [fO (f:=WX a) dN om hinv hc1]<;>rfl)))
  refine aX (bn (oG (qB (.int .i64 ((k+1:Nat):Int)) (addN om) ?_)));refine mV ?_;refine ak ?_;show _∧_;refine ⟨by omega,(fQ dN om hinv hc1),?_⟩;exact iN
 have hf2:=of_decide_eq_false hc0;refine VJ (aj (mV ?_));exact ak (aZ (bg (av:=.v (.int .i64 (-1))) rfl rfl (by rw [X2 (f:=WX a) om hinv]<;>rfl)))
abbrev xw (l:List Need):Nat→aH:=(U4 U5 0 (.live ⟨(enc eN l),95,2⟩))
abbrev xx:aC:=⟨[.i 0,.b false],95,1⟩
abbrev xy (l:List Need) (a:List Bool):aC:=⟨(enc eN (bF l a++List.replicate (l.length-(bF l a).length) dN)),95,2⟩
abbrev PT (l:List Need) (a:List Bool):Nat→AV:=(upd (upd (upd none_ 0 (.sl 0 0 l.length)) 1 (.fn 77 [.rp [.q eB a]])) 4 vN)
theorem Mm (l:List Need) (a:List Bool) (hl:l.length≤4294967296) (hr:a.length≤4294967296):iq Tryz.prog 75 [⟨(enc eN l),95,2⟩] [.sl 0 0 l.length,.fn 77 [.rp [.q eB a]]] (.sl 0 0 ((bF l a).length)) [.live (xy l a)]:=by
 refine kD (N:=42) 1 rfl Tryz.func75 rfl rfl (bM rfl) (by simp) (fun w0 G C Pk lM=>?_);refine aj (mV ?_);refine ak (aj (mS ?_));refine mG (.fn 77 [.rp [.q eB a]]) ?_;refine oG (f_ (Ie l a oo oo) rfl rfl rfl rfl rfl Cs lT ?_);refine mV ?_;refine rU (upd (PT l a) 5 (.i (bX (WX a) l))) (xw l) ?_;refine aF (aj (mV ?_));refine bB ?_;refine ak (cD (fun hc0=>?_) fun hc0=>?_)
 ·skip;have hf1:=(beq_iff_eq).1 hc0
  have hn0:l.any (WX a)=false:=by
   cases ha:l.any (WX a) with
   |false=>rfl
   |true=>obtain ⟨k,h1,h2,h3⟩:=PN dN l ha;rw [fO dN h1 h2 h3] at hf1;omega
  have hm0:=Fh hn0;refine aj (mS ?_);refine mS ?_;refine rU (upd (upd (upd (upd none_ 0 (.sl 0 0 l.length)) 1 (.fn 77 [.rp [.q eB a]])) 4 (.sl 0 0 l.length)) 5 (.i (bX (WX a) l))) (xw l) ?_;refine VA ⟨(upd none_ 4 (.sl 0 0 ((bF l a).length))),(U4 U5 0 (.live (xy l a)))⟩ ?_ ?_
  ·skip;exact iL [(0,0)] [((0,0),.live _)] ⟨U9 rfl (by exact congrArg (fun l_=>aC.mk (enc eN l_) 95 2) (by rw [hm0];simp)),trivial⟩ (he:=(sM (by exact congrArg (AV.sl 0 0) (by rw [hm0])) b_))
  exact aZ (jG rfl rfl rfl rfl)
 have hf2:=(beq_eq_false_iff_ne).1 hc0;obtain ⟨i0,hi,hlt,hpre,hdel⟩:=oC dN (show ¬bX (WX a) l= -1 from fun e=>hf2 e);refine aX (aF (aj (mV ?_)));refine oG (qB (.int .i64 ((bX (WX a) l)+1)) (XO om) ?_);refine mV ?_;refine rU (upd (upd (PT l a) 5 (.i (bX (WX a) l))) 6 (.i ((bX (WX a) l)+1))) (xw l) ?_;refine bf (cB (fun k=>⟨(upd (upd (PT l a) 5 (.i (((bH a l (i0+1+k)).2:Nat):Int))) 6 (.i ((i0+1+k:Nat):Int))),(U4 U5 0 (.live ⟨(enc eN ((bH a l (i0+1+k)).1)),95,2⟩))⟩) (fun k=>True) ((l.length-(i0+1))) ?_ trivial (fun k c9 hinv=>?_))
 ·skip;have hf0:=za a hlt hpre hdel;exact iL [(0,0)] [((0,0),.live _)] ⟨U9 rfl (by exact congrArg (fun l_=>aC.mk (enc eN l_) 95 2) (show (bH a l (i0+1+0)).1=l by rw [show i0+1+0=i0+1 from rfl,hf0])),trivial⟩ (he:=(sS (by exact congrArg (fun n_:Int=>AV.v (.int .i64 n_)) (show bX (WX a) l+1=((i0+1+0:Nat):Int) by omega)) (sS (by exact congrArg (fun n_:Int=>AV.v (.int .i64 n_)) (show bX (WX a) l=(((bH a l (i0+1+0)).2:Nat):Int) by rw [show i0+1+0=i0+1 from rfl,hf0];exact hi)) (sS rfl (sS rfl (sM rfl b_))))))
 obtain ⟨hv1,hv2,hv3,hv4,hv5⟩:=agl a l (i0+1+k) om;have hv6:=aj8 a hlt hpre hdel k om;refine aF (aj (mV ?_));refine mS ?_;refine oG (dU rfl rfl rfl rfl fh (eF rfl) ?_);refine bB ?_;refine rU (upd (upd (upd (PT l a) 5 (.i (((bH a l (i0+1+k)).2:Nat):Int))) 6 (.i ((i0+1+k:Nat):Int))) 19 (.b (decide (((i0+1+k:Nat):Int)<(l.length:Int))))) (U4 U5 0 (.live ⟨(enc eN ((bH a l (i0+1+k)).1)),95,2⟩)) ?_;refine cD (fun hc1=>?_) fun hc1=>?_
 ·skip;have hf3:=of_decide_eq_true hc1;refine aX (aF (bf (aj (mS ?_))));refine mV ?_;refine oG (iJ (k:=i0+1+k) rfl rfl rfl fh fx rfl rfl oo ?_);refine oG (uz (f:=eN) dN rfl rfl rfl lI fx rfl rfl rfl (fun _=>rfl) oo rfl ?_);refine oG (WW 51 rfl rfl rfl rfl r5 rfl ?_);refine oG (qS fx ?_);refine rU (upd (upd (upd (PT l a) 5 (.i (((bH a l (i0+1+k)).2:Nat):Int))) 6 (.i ((i0+1+k:Nat):Int))) 7 (.pt 51 0)) (U4 (U4 (U4 U5 0 (.live ⟨(enc eN ((bH a l (i0+1+k)).1)),95,2⟩)) 51 (.live xx)) 51 (.live ⟨[.i ((((bH a l (i0+1+k)).1).getD (i0+1+k) dN).point),.b ((((bH a l (i0+1+k)).1).getD (i0+1+k) dN).right)],95,1⟩)) ?_;refine aj (mG (.fn 77 [.rp [.q eB a]]) ?_);refine oG (cZ [.i ((((bH a l (i0+1+k)).1).getD (i0+1+k) dN).point),.b ((((bH a l (i0+1+k)).1).getD (i0+1+k) dN).right)] lI fx ?_);refine oG (qJ (z2 ((((bH a l (i0+1+k)).1).getD (i0+1+k) dN).point) ((((bH a l (i0+1+k)).1).getD (i0+1+k) dN).right) a oo) Cr ?_);refine oG (gV rfl rfl rfl rfl ?_);refine rU (upd (upd (upd (upd (PT l a) 5 (.i (((bH a l (i0+1+k)).2:Nat):Int))) 6 (.i ((i0+1+k:Nat):Int))) 7 (.pt 51 0)) 29 (.b (!(!(hasB a ((((bH a l (i0+1+k)).1).getD (i0+1+k) dN).point) != ((((bH a l (i0+1+k)).1).getD (i0+1+k) dN).right)))))) (U4 (U4 (U4 U5 0 (.live ⟨(enc eN ((bH a l (i0+1+k)).1)),95,2⟩)) 51 (.live xx)) 51 (.live ⟨[.i ((((bH a l (i0+1+k)).1).getD (i0+1+k) dN).point),.b ((((bH a l (i0+1+k)).1).getD (i0+1+k) dN).right)],95,1⟩)) ?_;refine cD (fun hc2=>?_) fun hc2=>?_
  ·skip;have eA:=kP hc2;refine aj (mS ?_);refine mV ?_;refine oG (cZ [.i ((((bH a l (i0+1+k)).1).getD (i0+1+k) dN).point),.b ((((bH a l (i0+1+k)).1).getD (i0+1+k) dN).right)] lI fx ?_);refine oG (iJ (k:=(bH a l (i0+1+k)).2) rfl rfl rfl fh fx rfl rfl oo ?_);refine oG (l9 (f:=eN) (l:=(bH a l (i0+1+k)).1) (l':=((bH a l (i0+1+k)).1).set ((bH a l (i0+1+k)).2) (⟨(((bH a l (i0+1+k)).1).getD (i0+1+k) dN).point,(((bH a l (i0+1+k)).1).getD (i0+1+k) dN).right⟩:Need)) (⟨(((bH a l (i0+1+k)).1).getD (i0+1+k) dN).point,(((bH a l (i0+1+k)).1).getD (i0+1+k) dN).right⟩:Need) rfl rfl rfl fx rfl rfl rfl rfl rfl (fun _=>rfl) oo rfl rfl ?_);refine rU (upd (upd (upd (PT l a) 5 (.i (((bH a l (i0+1+k)).2:Nat):Int))) 6 (.i ((i0+1+k:Nat):Int))) 7 (.pt 51 0)) (U4 (U4 (U4 (U4 U5 0 (.live ⟨(enc eN ((bH a l (i0+1+k)).1)),95,2⟩)) 51 (.live xx)) 51 (.live ⟨[.i ((((bH a l (i0+1+k)).1).getD (i0+1+k) dN).point),.b ((((bH a l (i0+1+k)).1).getD (i0+1+k) dN).right)],95,1⟩)) 0 (.live ⟨(enc eN (((bH a l (i0+1+k)).1).set ((bH a l (i0+1+k)).2) (⟨(((bH a l (i0+1+k)).1).getD (i0+1+k) dN).point,(((bH a l (i0+1+k)).1).getD (i0+1+k) dN).right⟩:Need))),95,2⟩)) ?_;refine bn (mV ?_);refine oG (qB (.int .i64 (((bH a l (i0+1+k)).2+1:Nat):Int)) (addN om) ?_);refine mV ?_;refine ak (bn (mV ?_));refine oG (qB (.int .i64 ((i0+1+k+1:Nat):Int)) (addN om) ?_);refine mV ?_;refine ak ?_;show _∧_;have hs:=ajm a (l:=l) (j:=i0+1+k) om (by simpa [WX] using hc2);refine ⟨by omega,trivial,?_⟩;exact iL [(0,0)] [((0,0),.live _)] ⟨U9 rfl (by exact congrArg (fun l_=>aC.mk (enc eN l_) 95 2) (congrArg Prod.fst hs)),trivial⟩ (he:=(sS rfl (sS (by exact congrArg (fun n_:Int=>AV.v (.int .i64 n_)) (congrArg (fun q:List Need×Nat=>((q.2:Nat):Int)) hs.symm)) (sS rfl (sS rfl (sM rfl b_))))))
  have iy:=Xz hc2;refine aX (bn (mV ?_));refine oG (qB (.int .i64 ((i0+1+k+1:Nat):Int)) (addN om) ?_);refine mV ?_;refine ak ?_;show _∧_;have hs:=Gl a (l:=l) (j:=i0+1+k) om (by simpa [WX] using hc2);refine ⟨by omega,trivial,?_⟩;exact iL [(0,0)] [((0,0),.live _)] ⟨U9 rfl (by exact congrArg (fun l_=>aC.mk (enc eN l_) 95 2) (congrArg Prod.fst hs)),trivial⟩ (he:=(sS rfl (sS (by exact congrArg (fun n_:Int=>AV.v (.int .i64 n_)) (congrArg (fun q:List Need×Nat=>((q.2:Nat):Int)) hs.symm)) (sS rfl (sS rfl (sM rfl b_))))))
 have fk:=of_decide_eq_false hc1;refine VJ (aj (mS ?_));refine mV ?_;refine oG (qH (l:=(bH a l (i0+1+k)).2) (ob:=⟨(enc eN ((bH a l (i0+1+k)).1)),95,2⟩) rfl rfl rfl fh fx rfl rfl rfl ⟨_,rfl⟩ oo ?_);refine oG (uh (n:=l.length-((bH a l (i0+1+k)).2)) (ob:=⟨(enc eN ((bH a l (i0+1+k)).1)),95,2⟩) rfl rfl rfl rfl fh (ada r5) rfl rfl rfl oo (by show _+(l.length-(bH a l (i0+1+k)).2)*2≤(enc eN (bH a l (i0+1+k)).1).length;rw [eO (f:=eN) (s:=2) (fun _=>rfl)];omega) (Gm om) ?_);refine rU (upd (upd (upd none_ 0 (.sl 0 0 l.length)) 4 vN) 5 (.i (((bH a l (i0+1+k)).2:Nat):Int))) (U4 (U4 U5 0 (.live ⟨(enc eN ((bH a l (i0+1+k)).1)),95,2⟩)) 0 (.live ⟨(enc eN ((bH a l (i0+1+k)).1.take (bH a l (i0+1+k)).2++List.replicate (l.length-(bH a l (i0+1+k)).2) dN)),95,2⟩)) ?_;refine aj (mS ?_);refine mV ?_;refine oG (abx (hgh:=(bH a l (i0+1+k)).2) rfl rfl rfl fh fx rfl ⟨_,rfl⟩ oo ?_);refine mS ?_;refine rU (upd none_ 4 (.sl 0 0 ((bH a l (i0+1+k)).2))) (U4 (U4 U5 0 (.live ⟨(enc eN ((bH a l (i0+1+k)).1)),95,2⟩)) 0 (.live ⟨(enc eN ((bH a l (i0+1+k)).1.take (bH a l (i0+1+k)).2++List.replicate (l.length-(bH a l (i0+1+k)).2) dN)),95,2⟩)) ?_;have hjk:i0+1+k=l.length:=by omega
 rw [hjk,List.take_of_length_le (Nat.le_refl _)] at hv4 hv5;refine VA ⟨(upd none_ 4 (.sl 0 0 ((bF l a).length))),(U4 U5 0 (.live (xy l a)))⟩ ?_ ?_
 ·skip;exact iL [(0,0)] [((0,0),.live _)] ⟨U9 rfl (by exact congrArg (fun l_=>aC.mk (enc eN l_) 95 2) (by rw [hjk,hv4,hv5])),trivial⟩ (he:=(sM (by exact congrArg (AV.sl 0 0) (by rw [hjk,hv5])) b_))
 exact aZ (jG rfl rfl rfl rfl)
theorem Jz (a:List Int) (s:Int) (hl:a.length≤4294967296):Fn Tryz.prog 82 [.agg [.one,.one,.q eI a],.rp [.v (.int .i64 s)]] (.v (.bool (decide (s∈a)))):=by
 refine bL (N:=8) Tryz.func82 rfl rfl (bM rfl) (by simp) (fun w0 X Pk=>?_);refine aj (oG (qW 51 ?_));refine mV ?_;refine ak (aj (fG (.pt 51 2) Jx j7 ?_));refine oO lL ?_;refine oV bq ?_;refine oG (qJ (xl a s oo) wh ?_);refine mV ?_;refine rU (upd none_ 3 (.b (decide (s∈a)))) (U4 U5 51 (.live ⟨[.one,.one,.q eI a],76,1⟩)) ?_;exact aZ (bg (av:=.v (.bool (decide (s∈a)))) rfl rfl rfl)
abbrev xA (a:List View) (s:Int):Nat→AV:=(upd (upd (upd none_ 0 (.q eV a)) 1 (.fn 82 [.rp [.i s]])) 4 (.i 0))
theorem Mn (a:List View) (s:Int) (hn:a.length≤4294967296) (hv:∀v,v∈a→v.span.length≤65536):Fn Tryz.prog 99 [.q eV a,.fn 82 [.rp [.v (.int .i64 s)]]] (.v (.int .i64 (bX (ZK s) a))):=by
 refine bL (N:=19) Tryz.func99 rfl rfl (bM rfl) (by simp) (fun w0 X Pk=>?_);refine aj (mV ?_);refine ak (aF (aj (mO ?_)));refine oG (qN Cu ?_);refine mV ?_;refine rU (upd (upd (xA a s) 7 (.i (a.length:Int))) 8 (.i 0)) U5 ?_;refine bf (cB (fun k=>⟨(upd (upd (xA a s) 7 (.i (a.length:Int))) 8 (.i (k:Int))),U5⟩) (fun k=>(a.take k).any (ZK s)=false) (a.length) ?_ (by simp) (fun k c9 hinv=>?_))
 ·skip;exact iN
 refine aj (bB ?_);refine ak (aF (cD (fun hc0=>?_) fun hc0=>?_))
 ·skip;have hf1:=of_decide_eq_true hc0;have hvk:=hv _ (VR (l:=a) (k:=k) ku om);refine aX (aF (bf (aj (mV ?_))));refine mV ?_;refine ak (aj (mG (.fn 82 [.rp [.i s]]) ?_));refine mO ?_;refine mV ?_;refine oG (qX ku Cu Ct ?_);refine oG (cZ [.i ((a.getD k ku).id),.b ((a.getD k ku).sure),.q eI ((a.getD k ku).span)] Me Ct ?_);refine oG (qC (Jz ((a.getD k ku).span) s oo) Mj ?_);refine rU (upd (upd (upd (upd (xA a s) 5 (.i (k:Int))) 7 (.i (a.length:Int))) 8 (.i (k:Int))) 16 (.b (decide (s∈((a.getD k ku).span))))) U5 ?_;refine cD (fun hc1=>?_) fun hc1=>?_
  ·skip;refine aj (mV ?_);refine mV ?_;exact ak (aZ (bg (av:=.v (.int .i64 (k:Int))) rfl rfl (by rw [fO (f:=ZK s) ku om hinv hc1]<;>rfl)))
  refine aX (bn (oG (qB (.int .i64 ((k+1:Nat):Int)) (addN om) ?_)));refine mV ?_;refine ak ?_;show _∧_;refine ⟨by omega,(fQ ku om hinv hc1),?_⟩;exact iN
 have hf2:=of_decide_eq_false hc0;refine VJ (aj (mV ?_));exact ak (aZ (bg (av:=.v (.int .i64 (-1))) rfl rfl (by rw [X2 (f:=ZK s) om hinv]<;>rfl)))
theorem Mp (a:List View) (s:Int) (hn:a.length≤4294967296) (hv:∀v,v∈a→v.span.length≤65536):Fn Tryz.prog 81 [.q eV a,.fn 82 [.rp [.v (.int .i64 s)]]] (.v (.bool (a.any (ZK s)))):=by
 refine bL (N:=9) Tryz.func81 rfl rfl (bM rfl) (by simp) (fun w0 X Pk=>?_);refine aj (mV ?_);refine ak (aj (mO ?_));refine mG (.fn 82 [.rp [.i s]]) ?_;refine oG (qJ (Mn a s oo oo) Mk ?_);refine bB ?_;refine mV ?_;refine rU (upd none_ 4 (.b (decide ((bX (ZK s) a)≥0)))) U5 ?_;exact aZ (bg (av:=.v (.bool (decide ((bX (ZK s) a)≥0)))) rfl rfl (by rw [jW ku]<;>rfl))
abbrev DN (a:List aP):Nat→aH:=(U4 U5 51 (.live ⟨[.one,.one,.one,.q aJ a,.one,.one,.one,.one,.one,.one],35,1⟩))
abbrev xB (a:List aP) (p:Int):Nat→aH:=(U4 (U4 (DN a) 52 (.live ⟨[.i 0],3,1⟩)) 52 (.live ⟨[.i ((a.getD p.toNat dP).stem)],3,1⟩))
theorem KM (a:List aP) (c:List Int) (e:List View) (d f:List Bool) (p:Int) (hp:a.length≤65536) (hs:c.length≤65536) (hn:e.length≤65536) (hlk:d.length≤65536) (hh:f.length≤65536) (hv:∀v,v∈e→v.span.length≤65536):Fn Tryz.prog 48 [.agg [.one,.one,.one,.q aJ a,.one,.one,.one,.one,.one,.one],.q aI c,.q eV e,.q eB d,.q eB f,.v (.int .i64 p)] (.v (.bool (gG a c e d f p))):=by
 refine bL (N:=58) Tryz.func48 rfl rfl (bM rfl) (by simp) (fun w0 X Pk=>?_);refine aj (oG (qW 51 ?_));refine mV ?_;refine ak (aF (aj (mV ?_)));refine bB ?_;refine mV ?_;refine Wi 6 22 (.b ((decide (p<0))||(decide (p≥(a.length:Int))))) ?_ ?_
 ·refine (Bool.eq_false_or_eq_true (decide (p<0))).elim (fun hg1=>?_) (fun hg1=>?_)
  ·skip;have hf2:=of_decide_eq_true hg1;refine nG hg1 ?_;refine nG hg1 ?_;refine nG hg1 ?_;refine nG hg1 ?_;refine nG hg1 ?_;refine oG (qP (decide (p<0)) (.b true) hg1 ?_);exact ak (Vy (Vx 22 _ _ (by rw [hg1]<;>rfl) lO))
  have hf3:=of_decide_eq_false hg1;refine oY hg1 (qM (.i p) ?_);refine oY hg1 (qF (.pt 51 0) (.pt 51 3) gA fI ?_);refine oY hg1 (qL (.q aJ a) il ?_);refine oY hg1 (qN gb ?_);refine oY hg1 (qB (.bool (decide (p≥(a.length:Int)))) rfl ?_);refine oG (qP (decide (p<0)) (.b (decide (p≥(a.length:Int)))) hg1 ?_);exact ak (Vy (Vx 22 _ _ (by rw [hg1]<;>rfl) lO))
 refine mV ?_;refine Wi 4 27 (.b (((decide (p<0))||(decide (p≥(a.length:Int))))||(hasB f p))) ?_ ?_
 ·refine (Bool.eq_false_or_eq_true ((decide (p<0))||(decide (p≥(a.length:Int))))).elim (fun hg4=>?_) (fun hg4=>?_)
  ·skip;refine nG hg4 ?_;refine nG hg4 ?_;refine nG hg4 ?_;refine oG (qP ((decide (p<0))||(decide (p≥(a.length:Int)))) (.b true) hg4 ?_);exact ak (Vy (Vx 27 _ _ (by rw [hg4]<;>rfl) lO))
  obtain ⟨g0,gE⟩:=XB hg4;have fk:=of_decide_eq_false g0;have gJ:=of_decide_eq_false gE;refine oY hg4 (qM (.q eB f) ?_);refine oY hg4 (qM (.i p) ?_);refine oY hg4 (qJ (vB f p oo) wi ?_);refine oG (qP ((decide (p<0))||(decide (p≥(a.length:Int)))) (.b (hasB f p)) hg4 ?_);exact ak (Vy (Vx 27 _ _ (by rw [hg4]<;>rfl) lO))
 refine ak (rT (upd (upd (upd (upd (upd (upd (upd none_ 1 (.q aI c)) 2 (.q eV e)) 3 (.q eB d)) 5 (.i p)) 6 (.pt 51 0)) 12 (.b false)) 27 (.b (((decide (p<0))||(decide (p≥(a.length:Int))))||(hasB f p)))) (DN a) ?_);refine cD (fun hc0=>?_) fun hc0=>?_
 ·skip;refine aj (mV ?_);exact ak (aZ (bg (av:=.v (.bool false)) rfl rfl (by rw [JA hc0])))
 obtain ⟨Mq,Ow⟩:=XB hc0;obtain ⟨mC,nO⟩:=XB Mq;have lK:=of_decide_eq_false mC;have lJ:=of_decide_eq_false nO;have hno:(decide (p<0)||decide (p≥(a.length:Int))||hasB f p)=false:=hc0;have hpr:0≤p∧p<(a.length:Int):=by simp only [Bool.or_eq_false_iff,decide_eq_false_iff_not] at hno;omega
 refine aX (aj (fG (.pt 51 3) gA fI ?_));refine oO il ?_;refine mV ?_;refine oG (Wo dP rfl rfl rfl gb im rfl rfl (fun _=>rfl) rfl om oo ?_);refine oG (qF (.rp (([.i ((a.getD p.toNat dP).node),.i ((a.getD p.toNat dP).stem),.i ((a.getD p.toNat dP).left),.i ((a.getD p.toNat dP).right)]:List AV)++((enc aJ a).drop ((p.toNat+1)*4)))) (.rp (([.i ((a.getD p.toNat dP).stem),.i ((a.getD p.toNat dP).left),.i ((a.getD p.toNat dP).right)]:List AV)++((enc aJ a).drop ((p.toNat+1)*4)))) kJ bu ?_);refine oV bq ?_;refine oG (WW 52 rfl rfl rfl rfl DD rfl ?_);refine oG (qS bu ?_);refine rU (upd (upd (upd (upd (upd none_ 1 (.q aI c)) 2 (.q eV e)) 3 (.q eB d)) 12 (.b false)) 13 (.pt 52 0)) (xB a p) ?_;refine aF (aj (mO ?_));refine oG (kC (caps:=[.tmp 13]) rfl rfl rfl rfl ?_);refine oG (f_ (Mp e (a.getD p.toNat dP).stem om hv) rfl rfl rfl rfl rfl Mi (Vb (dF (av:=.q eV e)) (Vb (kH lT) fP)) ?_);refine ak (cD (fun hc1=>?_) fun hc1=>?_)
 ·skip;refine aj (mV ?_);refine rU (upd (upd (upd (upd none_ 1 (.q aI c)) 3 (.q eB d)) 12 (.b false)) 13 (.pt 52 0)) (xB a p) ?_;exact aZ (bg (av:=.v (.bool false)) rfl rfl (by rw [JB hno hc1]))
 refine aX (aj (oV bq ?_));refine bB ?_;refine mV ?_;refine Wi 5 44 (.b ((decide (((a.getD p.toNat dP).stem)≥0))&&(decide (((a.getD p.toNat dP).stem)<(c.length:Int))))) ?_ ?_
 ·refine (Bool.eq_false_or_eq_true (decide (((a.getD p.toNat dP).stem)≥0))).elim (fun dz=>?_) (fun dz=>?_)
  ·skip;have mD:=of_decide_eq_true dz;refine oY dz (qL (.i ((a.getD p.toNat dP).stem)) bq ?_);refine oY dz (qM (.q aI c) ?_);refine oY dz (qN cA ?_);refine oY dz (qB (.bool (decide (((a.getD p.toNat dP).stem)<(c.length:Int)))) rfl ?_);refine oG (qP (decide (((a.getD p.toNat dP).stem)≥0)) (.b (decide (((a.getD p.toNat dP).stem)<(c.length:Int)))) dz ?_);exact ak (Vy (Vx 44 _ _ (by rw [dz]<;>rfl) lO))
  have nR:=of_decide_eq_false dz;refine nG dz ?_;refine nG dz ?_;refine nG dz ?_;refine nG dz ?_;refine oG (qP (decide (((a.getD p.toNat dP).stem)≥0)) (.b false) dz ?_);exact ak (Vy (Vx 44 _ _ (by rw [dz]<;>rfl) lO))
 refine mV ?_;refine Wi 6 51 (.b (((decide (((a.getD p.toNat dP).stem)≥0))&&(decide (((a.getD p.toNat dP).stem)<(c.length:Int))))&&((c.getD ((a.getD p.toNat dP).stem).toNat 0)==0))) ?_ ?_
 ·refine (Bool.eq_false_or_eq_true ((decide (((a.getD p.toNat dP).stem)≥0))&&(decide (((a.getD p.toNat dP).stem)<(c.length:Int))))).elim (fun g5=>?_) (fun g5=>?_)
  ·skip;obtain ⟨pj,pk⟩:=gY g5;have v4:=of_decide_eq_true pj;have nQ:=of_decide_eq_true pk;refine oY g5 (qM (.q aI c) ?_);refine oY g5 (qL (.i ((a.getD p.toNat dP).stem)) bq ?_);refine oY g5 (Wo 0 rfl rfl rfl cA c7 rfl rfl (fun _=>rfl) rfl om oo ?_);refine oY g5 (qL (.v (.int .u8 (c.getD ((a.getD p.toNat dP).stem).toNat 0))) Pn ?_);refine oY g5 (qB (.bool ((c.getD ((a.getD p.toNat dP).stem).toNat 0)==0)) rfl ?_);refine oG (qP ((decide (((a.getD p.toNat dP).stem)≥0))&&(decide (((a.getD p.toNat dP).stem)<(c.length:Int)))) (.b ((c.getD ((a.getD p.toNat dP).stem).toNat 0)==0)) g5 ?_);exact ak (Vy (Vx 51 _ _ (by rw [g5]<;>rfl) lO))
  refine nG g5 ?_;refine nG g5 ?_;refine nG g5 ?_;refine nG g5 ?_;refine nG g5 ?_;refine oG (qP ((decide (((a.getD p.toNat dP).stem)≥0))&&(decide (((a.getD p.toNat dP).stem)<(c.length:Int)))) (.b false) g5 ?_);exact ak (Vy (Vx 51 _ _ (by rw [g5]<;>rfl) lO))
 refine mV ?_;refine Wi 5 57 (.b ((((decide (((a.getD p.toNat dP).stem)≥0))&&(decide (((a.getD p.toNat dP).stem)<(c.length:Int))))&&((c.getD ((a.getD p.toNat dP).stem).toNat 0)==0))&&(!(hasB d ((a.getD p.toNat dP).stem))))) ?_ ?_
 ·refine (Bool.eq_false_or_eq_true (((decide (((a.getD p.toNat dP).stem)≥0))&&(decide (((a.getD p.toNat dP).stem)<(c.length:Int))))&&((c.getD ((a.getD p.toNat dP).stem).toNat 0)==0))).elim (fun iu=>?_) (fun iu=>?_)
  ·skip;obtain ⟨vK,vL⟩:=gY iu;obtain ⟨vM,O7⟩:=gY vK;have r7:=of_decide_eq_true vM;have v9:=of_decide_eq_true O7;have wa:=(beq_iff_eq).1 vL;refine oY iu (qM (.q eB d) ?_);refine oY iu (qL (.i ((a.getD p.toNat dP).stem)) bq ?_);refine oY iu (qJ (vB d ((a.getD p.toNat dP).stem) oo) wi ?_);refine oY iu (gV rfl rfl rfl rfl ?_);refine oG (qP (((decide (((a.getD p.toNat dP).stem)≥0))&&(decide (((a.getD p.toNat dP).stem)<(c.length:Int))))&&((c.getD ((a.getD p.toNat dP).stem).toNat 0)==0)) (.b (!(hasB d ((a.getD p.toNat dP).stem)))) iu ?_);exact ak (Vy (Vx 57 _ _ (by rw [iu]<;>rfl) lO))
  refine nG iu ?_;refine nG iu ?_;refine nG iu ?_;refine nG iu ?_;refine oG (qP (((decide (((a.getD p.toNat dP).stem)≥0))&&(decide (((a.getD p.toNat dP).stem)<(c.length:Int))))&&((c.getD ((a.getD p.toNat dP).stem).toNat 0)==0)) (.b false) iu ?_);exact ak (Vy (Vx 57 _ _ (by rw [iu]<;>rfl) lO))
 refine mV ?_;refine ak (rT (upd none_ 12 (.b ((((decide (((a.getD p.toNat dP).stem)≥0))&&(decide (((a.getD p.toNat dP).stem)<(c.length:Int))))&&((c.getD ((a.getD p.toNat dP).stem).toNat 0)==0))&&(!(hasB d ((a.getD p.toNat dP).stem)))))) (xB a p) ?_);exact aZ (bg (av:=.v (.bool ((((decide (((a.getD p.toNat dP).stem)≥0))&&(decide (((a.getD p.toNat dP).stem)<(c.length:Int))))&&((c.getD ((a.getD p.toNat dP).stem).toNat 0)==0))&&(!(hasB d ((a.getD p.toNat dP).stem)))))) rfl rfl (by rw [Ig hno hc1]))
theorem s4:V0 Tryz.prog 2=some false:=by kernel_rfl
theorem iO:V0 Tryz.prog 37=some false:=by kernel_rfl
theorem sf:V0 Tryz.prog 69=some false:=by kernel_rfl
theorem ji:V0 Tryz.prog 71=some false:=by kernel_rfl
theorem Mr:V0 Tryz.prog 77=some false:=by kernel_rfl
theorem lN:V0 Tryz.prog 91=some false:=by kernel_rfl
theorem BS:Vp Tryz.prog 102=true:=by kernel_rfl
theorem Cv:Vp Tryz.prog 37=true:=by kernel_rfl
theorem Ms:Vp Tryz.prog 47=true:=by kernel_rfl
theorem Mt:Vp Tryz.prog 48=true:=by kernel_rfl
theorem sg:Vp Tryz.prog 50=true:=by kernel_rfl
theorem Mu:Vp Tryz.prog 59=true:=by kernel_rfl
theorem Mv:Vp Tryz.prog 70=true:=by kernel_rfl
theorem Mw:Vp Tryz.prog 71=true:=by kernel_rfl
theorem Mx:Vp Tryz.prog 72=true:=by kernel_rfl
theorem Cw:Vp Tryz.prog 84=true:=by kernel_rfl
theorem My:Vp Tryz.prog 85=true:=by kernel_rfl
theorem Mz:Vp Tryz.prog 86=true:=by kernel_rfl
theorem MA:Vp Tryz.prog 87=true:=by kernel_rfl
theorem MB:Vp Tryz.prog 94=true:=by kernel_rfl
theorem lC:VZ Tryz.prog 59 0=some (3,0):=by kernel_rfl
theorem ve:VZ Tryz.prog 59 1=some (3,1):=by kernel_rfl
theorem rC:VZ Tryz.prog 59 2=some (2,2):=by kernel_rfl
theorem gB:VZ Tryz.prog 59 3=some (40,3):=by kernel_rfl
theorem kM:VZ Tryz.prog 73 0=some (35,0):=by kernel_rfl
theorem rD:VZ Tryz.prog 73 1=some (69,10):=by kernel_rfl
theorem g_:VZ Tryz.prog 73 2=some (71,11):=by kernel_rfl
theorem sh:(Tryz.prog.info? 69).map (·.size)=some 1:=by kernel_rfl
theorem gi:(Tryz.prog.info? 71).map (·.size)=some 1:=by kernel_rfl
theorem j9:(Tryz.prog.info? 91).map (·.size)=some 1:=by kernel_rfl
theorem j_:Tryz.prog.underlying 37=some (.pointer 73):=by kernel_rfl
theorem eY:Tryz.prog.underlying 71=some (.slice 91):=by kernel_rfl
end Go.Lo