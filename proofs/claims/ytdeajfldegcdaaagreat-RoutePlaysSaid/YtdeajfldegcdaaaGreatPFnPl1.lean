/- Walks of Go functions in the logic of values: what the law reaches. -/
import Derived.Test.YtdeajfldegcdaaaGreatPFnPlm12
import Derived.Test.YtdeajfldegcdaaaGreatProg

import Derived.Test.YtdeajfldegcdaaaGreatPFnPlm9
import Derived.KernelRfl
import Derived.Test.YtdeajfldegcdaaaGreatPFnPlm7
import Derived.Test.YtdeajfldegcdaaaGreatPFnPlm8
import Derived.Test.YtdeajfldegcdaaaGreatPFnPlm10
import Derived.Test.YtdeajfldegcdaaaGreatPFnPlm11
set_option linter.unusedVariables false
set_option linter.unusedSimpArgs false
set_option maxRecDepth 10000
set_option maxHeartbeats 16000000
namespace Go.Lo
open Go.Proofs
theorem Y0:YV Tryz.prog 3=some false:=by kernel_rfl
theorem o5:YV Tryz.prog 4=some false:=by kernel_rfl
theorem dB:YV Tryz.prog 5=some false:=by kernel_rfl
theorem oT:YV Tryz.prog 95=some true:=by kernel_rfl
theorem qf:bO Tryz.prog 40=true:=by kernel_rfl
theorem wR:bO Tryz.prog 93=true:=by kernel_rfl
theorem pG:dD Tryz.prog 135 0=some (3,0):=by kernel_rfl
theorem HI:dD Tryz.prog 135 1=some (4,1):=by kernel_rfl
theorem pL:dD Tryz.prog 95 0=some (3,0):=by kernel_rfl
theorem Is:dD Tryz.prog 95 1=some (4,1):=by kernel_rfl
theorem ng:(Tryz.prog.info? 4).map (fun i=>(i.zero,i.size,i.bytes))=some (some (.bool false),1,1):=by kernel_rfl
theorem JL:(Tryz.prog.info? 95).map (fun i=>(i.zero,i.size,i.bytes))=some (some (.agg #[(.int .i64 0),(.bool false)]),2,16):=by kernel_rfl
theorem xy:(Tryz.prog.info? 4).map (fun i=>(i.zero,i.size))=some (some (.bool false),1):=by kernel_rfl
theorem JM:(Tryz.prog.info? 95).map (fun i=>(i.zero,i.size))=some (some (.agg #[(.int .i64 0),(.bool false)]),2):=by kernel_rfl
theorem mixed:Tryz.prog.follows .mixedOrders=true:=by kernel_rfl
theorem lK:(Tryz.prog.info? 135).map (·.size)=some 2:=by kernel_rfl
theorem bC:(Tryz.prog.info? 3).map (·.size)=some 1:=by kernel_rfl
theorem ik:(Tryz.prog.info? 4).map (·.size)=some 1:=by kernel_rfl
theorem cR:(Tryz.prog.info? 5).map (·.size)=some 1:=by kernel_rfl
theorem iE:(Tryz.prog.info? 95).map (·.size)=some 2:=by kernel_rfl
theorem ig:Tryz.prog.underlying 130=some (.slice 135):=by kernel_rfl
theorem CJ:Tryz.prog.underlying 4=some (.bool):=by kernel_rfl
theorem cq:Tryz.prog.underlying 40=some (.slice 5):=by kernel_rfl
theorem eF:Tryz.prog.underlying 41=some (.slice 4):=by kernel_rfl
theorem cG:Tryz.prog.underlying 57=some (.slice 3):=by kernel_rfl
theorem iq:Tryz.prog.underlying 92=some (.slice 95):=by kernel_rfl
theorem wS:(Tryz.prog.info? 95).bind (·.zero)=some (.agg #[(.int .i64 0),(.bool false)]):=by kernel_rfl
theorem vi (a:List Bool) (p:Int) (hl:a.length≤4294967296):Fn Tryz.prog 93 [.q eB a,.v (.int .i64 p)] (.v (.bool (hasB a p))):=by
 refine cf (N:=19) Tryz.func93 rfl rfl (b_ rfl) (by simp) (fun w0 X bJ=>?_);refine aj (mV ?_);refine ak (aj (mV ?_));refine bB ?_;refine mV ?_;refine dA 5 12 (.b ((decide (p≥0))&&(decide (p<(a.length:Int))))) ?_ ?_
 ·refine (Bool.eq_false_or_eq_true (decide (p≥0))).elim (fun hg1=>?_) (fun hg1=>?_)
  ·skip;have hf2:=of_decide_eq_true hg1;refine oY hg1 (qM (.i p) ?_);refine oY hg1 (qM (.q eB a) ?_);refine oY hg1 (qN eF ?_);refine oY hg1 (qB (.bool (decide (p<(a.length:Int)))) rfl ?_);refine oG (qP (decide (p≥0)) (.b (decide (p<(a.length:Int)))) hg1 ?_);exact ak (bS (bR 12 _ _ (by rw [hg1]<;>rfl) lO))
  have hf3:=of_decide_eq_false hg1;refine nG hg1 ?_;refine nG hg1 ?_;refine nG hg1 ?_;refine nG hg1 ?_;refine oG (qP (decide (p≥0)) (.b false) hg1 ?_);exact ak (bS (bR 12 _ _ (by rw [hg1]<;>rfl) lO))
 refine mV ?_;refine dA 5 18 (.b (((decide (p≥0))&&(decide (p<(a.length:Int))))&&(a.getD p.toNat false))) ?_ ?_
 ·refine (Bool.eq_false_or_eq_true ((decide (p≥0))&&(decide (p<(a.length:Int))))).elim (fun hg4=>?_) (fun hg4=>?_)
  ·skip;obtain ⟨iu,ij⟩:=fE hg4;have fB:=of_decide_eq_true iu;have gl:=of_decide_eq_true ij;refine oY hg4 (qM (.q eB a) ?_);refine oY hg4 (qM (.i p) ?_);refine oY hg4 (YZ false rfl rfl rfl eF ik rfl rfl (fun _=>rfl) rfl om oo ?_);refine oY hg4 (qL (.b (a.getD p.toNat false)) o5 ?_);refine oG (qP ((decide (p≥0))&&(decide (p<(a.length:Int)))) (.b (a.getD p.toNat false)) hg4 ?_);exact ak (bS (bR 18 _ _ (by rw [hg4]<;>rfl) lO))
  refine nG hg4 ?_;refine nG hg4 ?_;refine nG hg4 ?_;refine nG hg4 ?_;refine oG (qP ((decide (p≥0))&&(decide (p<(a.length:Int)))) (.b false) hg4 ?_);exact ak (bS (bR 18 _ _ (by rw [hg4]<;>rfl) lO))
 refine mV ?_;refine ak (rT (upd none_ 4 (.b (((decide (p≥0))&&(decide (p<(a.length:Int))))&&(a.getD p.toNat false)))) aG ?_);exact aV (bq (av:=.v (.bool (((decide (p≥0))&&(decide (p<(a.length:Int))))&&(a.getD p.toNat false)))) rfl rfl rfl)
theorem Br (a:List Bool) (p:Int) (hl:a.length≤4294967296):Fn Tryz.prog 80 [.q eB a,.v (.int .i64 p)] (.v (.bool (hasB a p))):=by
 refine cf (N:=19) Tryz.func80 rfl rfl (b_ rfl) (by simp) (fun w0 X bJ=>?_);refine aj (mV ?_);refine ak (aj (mV ?_));refine bB ?_;refine mV ?_;refine dA 5 12 (.b ((decide (p≥0))&&(decide (p<(a.length:Int))))) ?_ ?_
 ·refine (Bool.eq_false_or_eq_true (decide (p≥0))).elim (fun hg1=>?_) (fun hg1=>?_)
  ·skip;have hf2:=of_decide_eq_true hg1;refine oY hg1 (qM (.i p) ?_);refine oY hg1 (qM (.q eB a) ?_);refine oY hg1 (qN eF ?_);refine oY hg1 (qB (.bool (decide (p<(a.length:Int)))) rfl ?_);refine oG (qP (decide (p≥0)) (.b (decide (p<(a.length:Int)))) hg1 ?_);exact ak (bS (bR 12 _ _ (by rw [hg1]<;>rfl) lO))
  have hf3:=of_decide_eq_false hg1;refine nG hg1 ?_;refine nG hg1 ?_;refine nG hg1 ?_;refine nG hg1 ?_;refine oG (qP (decide (p≥0)) (.b false) hg1 ?_);exact ak (bS (bR 12 _ _ (by rw [hg1]<;>rfl) lO))
 refine mV ?_;refine dA 5 18 (.b (((decide (p≥0))&&(decide (p<(a.length:Int))))&&(a.getD p.toNat false))) ?_ ?_
 ·refine (Bool.eq_false_or_eq_true ((decide (p≥0))&&(decide (p<(a.length:Int))))).elim (fun hg4=>?_) (fun hg4=>?_)
  ·skip;obtain ⟨iu,ij⟩:=fE hg4;have fB:=of_decide_eq_true iu;have gl:=of_decide_eq_true ij;refine oY hg4 (qM (.q eB a) ?_);refine oY hg4 (qM (.i p) ?_);refine oY hg4 (YZ false rfl rfl rfl eF ik rfl rfl (fun _=>rfl) rfl om oo ?_);refine oY hg4 (qL (.b (a.getD p.toNat false)) o5 ?_);refine oG (qP ((decide (p≥0))&&(decide (p<(a.length:Int)))) (.b (a.getD p.toNat false)) hg4 ?_);exact ak (bS (bR 18 _ _ (by rw [hg4]<;>rfl) lO))
  refine nG hg4 ?_;refine nG hg4 ?_;refine nG hg4 ?_;refine nG hg4 ?_;refine oG (qP ((decide (p≥0))&&(decide (p<(a.length:Int)))) (.b false) hg4 ?_);exact ak (bS (bR 18 _ _ (by rw [hg4]<;>rfl) lO))
 refine mV ?_;refine ak (rT (upd none_ 4 (.b (((decide (p≥0))&&(decide (p<(a.length:Int))))&&(a.getD p.toNat false)))) aG ?_);exact aV (bq (av:=.v (.bool (((decide (p≥0))&&(decide (p<(a.length:Int))))&&(a.getD p.toNat false)))) rfl rfl rfl)
abbrev Z0 (a b:List Bool):Nat→AV:=(upd (upd (upd none_ 0 (.q eB a)) 1 (.q eB b)) 4 (.b false))
theorem vt (a b:List Bool) (hl:a.length≤4294967296):Fn Tryz.prog 29 [.q eB a,.q eB b] (.v (.bool (decide (a=b)))):=by
 refine cf (N:=26) Tryz.func29 rfl rfl (b_ rfl) (by simp) (fun w0 X bJ=>?_);refine aj (mV ?_);refine ak (aB (aj (mO ?_)));refine oG (qN eF ?_);refine mO ?_;refine oG (qN eF ?_);refine bB ?_;refine rU (upd (Z0 a b) 10 (.b ((a.length:Int) != (b.length:Int)))) aG ?_;refine cD (fun hc0=>?_) fun hc0=>?_
 ·skip;have hf1:=(bne_iff_ne).1 hc0;refine aj (mV ?_);exact ak (aV (bq (av:=.v (.bool false)) rfl rfl (by rw [Gp om]<;>rfl)))
 have hf2:=(bne_eq_false_iff_eq).1 hc0;refine aR (aB (aj (mV ?_)));refine ak (bf (cF (fun k=>⟨(upd (Z0 a b) 5 (.i (k:Int))),aG⟩) (fun k=>a.take k=b.take k) (a.length) ?_ (by simp) (fun k dq hinv=>?_)))
 ·skip;exact iN
 refine aB (aj (mV ?_));refine mO ?_;refine oG (qN eF ?_);refine bB ?_;refine rU (upd (upd (Z0 a b) 5 (.i (k:Int))) 14 (.b (decide ((k:Int)<(a.length:Int))))) aG ?_;refine cD (fun hc1=>?_) fun hc1=>?_
 ·skip;have hf3:=of_decide_eq_true hc1;refine aR (aB (bf (aB (aD 9 [(25,.b ((a.getD k false) != (b.getD k false))),(24,.b (b.getD k false)),(23,.rp (([.b (b.getD k false)]:List AV)++((enc eB b).drop ((k+1)*1)))),(22,.i (k:Int)),(21,.q eB b),(20,.b (a.getD k false)),(19,.rp (([.b (a.getD k false)]:List AV)++((enc eB a).drop ((k+1)*1)))),(18,.i (k:Int)),(17,.q eB a)] mixed ?_ ?_))))
  ·refine ⟨?_,?_,?_,?_,?_,?_,?_,?_,?_,trivial⟩
   ·exact aM
   ·exact aM
   ·exact (d4 false eF ik)
   ·exact (cN o5)
   ·exact aM
   ·exact aM
   ·exact (d4 false eF ik)
   ·exact (cN o5)
   exact dW 25 fun st ap hE=>Ao rfl rfl rfl (hE 20 rfl) (hE 24 rfl) CJ (by rw [ap];rfl)
  refine ak (cD (fun hc2=>?_) fun hc2=>?_)
  ·skip;have hne:=(bne_iff_ne).1 hc2;refine aj (mV ?_);exact ak (aV (bq (av:=.v (.bool false)) rfl rfl (by rw [F0 hne]<;>rfl)))
  have hne:=(bne_eq_false_iff_eq).1 hc2;refine aR (bm (mV ?_));refine oG (qB (.int .i64 ((k+1:Nat):Int)) (addN om) ?_);refine mV ?_;refine ak ?_;show _∧_;refine ⟨by omega,(F1 (d:=false) om om hinv hne),?_⟩;exact iN
 have eb:=of_decide_eq_false hc1;refine cu (aj (mV ?_));exact ak (aV (bq (av:=.v (.bool true)) rfl rfl (by rw [Gq om om hinv]<;>rfl)))
abbrev Z1 (a b:List Int):Nat→AV:=(upd (upd (upd none_ 0 (.q aC a)) 1 (.q aC b)) 4 (.b false))
theorem OL (a b:List Int) (hl:a.length≤4294967296):Fn Tryz.prog 36 [.q aC a,.q aC b] (.v (.bool (decide (a=b)))):=by
 refine cf (N:=26) Tryz.func36 rfl rfl (b_ rfl) (by simp) (fun w0 X bJ=>?_);refine aj (mV ?_);refine ak (aB (aj (mO ?_)));refine oG (qN cq ?_);refine mO ?_;refine oG (qN cq ?_);refine bB ?_;refine rU (upd (Z1 a b) 10 (.b ((a.length:Int) != (b.length:Int)))) aG ?_;refine cD (fun hc0=>?_) fun hc0=>?_
 ·skip;have hf1:=(bne_iff_ne).1 hc0;refine aj (mV ?_);exact ak (aV (bq (av:=.v (.bool false)) rfl rfl (by rw [Gp om]<;>rfl)))
 have hf2:=(bne_eq_false_iff_eq).1 hc0;refine aR (aB (aj (mV ?_)));refine ak (bf (cF (fun k=>⟨(upd (Z1 a b) 5 (.i (k:Int))),aG⟩) (fun k=>a.take k=b.take k) (a.length) ?_ (by simp) (fun k dq hinv=>?_)))
 ·skip;exact iN
 refine aB (aj (mV ?_));refine mO ?_;refine oG (qN cq ?_);refine bB ?_;refine rU (upd (upd (Z1 a b) 5 (.i (k:Int))) 14 (.b (decide ((k:Int)<(a.length:Int))))) aG ?_;refine cD (fun hc1=>?_) fun hc1=>?_
 ·skip;have hf3:=of_decide_eq_true hc1;refine aR (aB (bf (aB (aD 9 [(25,.b ((a.getD k 0) != (b.getD k 0))),(24,.v (.int .u8 (b.getD k 0))),(23,.rp (([.v (.int .u8 (b.getD k 0))]:List AV)++((enc aC b).drop ((k+1)*1)))),(22,.i (k:Int)),(21,.q aC b),(20,.v (.int .u8 (a.getD k 0))),(19,.rp (([.v (.int .u8 (a.getD k 0))]:List AV)++((enc aC a).drop ((k+1)*1)))),(18,.i (k:Int)),(17,.q aC a)] mixed ?_ ?_))))
  ·refine ⟨?_,?_,?_,?_,?_,?_,?_,?_,?_,trivial⟩
   ·exact aM
   ·exact aM
   ·exact (d4 (0:Int) cq cR)
   ·exact (cN dB)
   ·exact aM
   ·exact aM
   ·exact (d4 (0:Int) cq cR)
   ·exact (cN dB)
   exact sB (.bool ((a.getD k 0) != (b.getD k 0))) rfl
  refine ak (cD (fun hc2=>?_) fun hc2=>?_)
  ·skip;have eb:=(bne_iff_ne).1 hc2;have hne:=(bne_iff_ne).1 hc2;refine aj (mV ?_);exact ak (aV (bq (av:=.v (.bool false)) rfl rfl (by rw [F0 hne]<;>rfl)))
  have g0:=(bne_eq_false_iff_eq).1 hc2;have hne:=(bne_eq_false_iff_eq).1 hc2;refine aR (bm (mV ?_));refine oG (qB (.int .i64 ((k+1:Nat):Int)) (addN om) ?_);refine mV ?_;refine ak ?_;show _∧_;refine ⟨by omega,(F1 (d:=0) om om hinv hne),?_⟩;exact iN
 have fB:=of_decide_eq_false hc1;refine cu (aj (mV ?_));exact ak (aV (bq (av:=.v (.bool true)) rfl rfl (by rw [Gq om om hinv]<;>rfl)))
abbrev Z2 (l:List Int) (n:Int) (k:Nat):Nat→AV:=(upd (upd (upd (upd none_ 0 (.q eI l)) 1 (.i n)) 4 (.b false)) 5 (.i (k:Int)))
theorem Ap (l:List Int) (n:Int) (hl:l.length≤4294967296):Fn Tryz.prog 61 [.q eI l,.v (.int .i64 n)] (.v (.bool (decide (n∈l)))):=by
 refine cf (N:=18) Tryz.func61 rfl rfl (b_ rfl) (by simp) (fun w0 X bJ=>?_);refine aj (mV ?_);refine ak (aB (aj (mV ?_)));refine ak (bf (cF (fun k=>⟨(Z2 l n k),aG⟩) (fun k=>n∉l.take k) (l.length) ?_ (by simp) (fun k dq hinv=>?_)))
 ·skip;exact iN
 refine aB (aj (mV ?_));refine mO ?_;refine oG (qN cG ?_);refine bB ?_;refine rU (upd (Z2 l n k) 9 (.b (decide ((k:Int)<(l.length:Int))))) aG ?_;refine cD (fun hc0=>?_) fun hc0=>?_
 ·skip;have hf1:=of_decide_eq_true hc0;refine aR (aB (bf (aj (mO ?_))));refine mV ?_;refine oG (qX (0:Int) cG bC ?_);refine oV Y0 ?_;refine mV ?_;refine bB ?_;refine rU (upd (Z2 l n k) 17 (.b ((l.getD k 0)==n))) aG ?_;refine cD (fun hc1=>?_) fun hc1=>?_
  ·skip;have hf2:=(beq_iff_eq).1 hc1;have heq:=(beq_iff_eq).1 hc1;refine aj (mV ?_);exact ak (aV (bq (av:=.v (.bool true)) rfl rfl (by rw [PL om heq]<;>rfl)))
  have hf3:=(beq_eq_false_iff_ne).1 hc1;have hne:=(beq_eq_false_iff_ne).1 hc1;refine aR (bm (mV ?_));refine oG (qB (.int .i64 ((k+1:Nat):Int)) (addN om) ?_);refine mV ?_;refine ak ?_;show _∧_;refine ⟨by omega,(PN (d:=0) om hinv hne),?_⟩;exact iN
 have eb:=of_decide_eq_false hc0;refine cu (aj (mV ?_));exact ak (aV (bq (av:=.v (.bool false)) rfl rfl (by rw [Q9 om hinv]<;>rfl)))
theorem Vx (l:List Bool) (hl:l.length≤4294967296):jq Tryz.prog 40 [.q eB l] (.sl 0 0 l.length) [⟨(enc eB l),4,1⟩]:=by
 refine cf (N:=8) Tryz.func40 rfl rfl (b_ rfl) (by simp) (fun w0 X bJ=>?_);refine aj (mV ?_);refine ak (aB (aj (mO ?_)));refine oG (Y6 rfl rfl rfl eF rfl rfl (.inl rfl) (fun xA nR=>?_));refine ak (cD (fun hc0=>?_) fun hc0=>?_)
 ·skip;have h0:l.length=0:=Decidable.byContradiction fun h=>by have:=nR h;rw [hc0] at this;cases this
  refine aj (mV ?_);refine rU (upd (upd none_ 0 (.q eB l)) 2 vN) aG ?_;refine cy _ (iz 2 51 4 1 rfl rfl) ?_;exact aV (jU 51 rfl rfl rfl h0.symm (by rw [List.length_eq_zero_iff.1 h0];rfl))
 refine aR (aj (oG (oA 52 rfl rfl rfl eF xy (by decide) (by decide) rfl rfl rfl rfl ?_)));refine mO ?_;refine oG (nz (f:=eB) (l:=([]:List Bool)) (l2:=l) 53 rfl rfl rfl rfl eF ng rfl (by decide) rfl rfl rfl rfl rfl rfl (fun _=>rfl) rfl rfl rfl oo oo rfl ?_);refine mS ?_;refine rU (upd none_ 2 (.sl 53 0 ((([]:List Bool)++l).length))) (ah (ah (ah aG 52 (.live ⟨[],4,1⟩)) 52 .dead) 53 (.live ⟨(enc eB (([]:List Bool)++l)),4,1⟩)) ?_;exact aV (jU 53 rfl rfl rfl rfl rfl)
theorem Vy (l:List Need) (hl:l.length≤4294967296):jq Tryz.prog 76 [.q eN l] (.sl 0 0 l.length) [⟨(enc eN l),95,2⟩]:=by
 refine cf (N:=8) Tryz.func76 rfl rfl (b_ rfl) (by simp) (fun w0 X bJ=>?_);refine aj (mV ?_);refine ak (aB (aj (mO ?_)));refine oG (Y6 rfl rfl rfl iq rfl rfl (.inl rfl) (fun xA nR=>?_));refine ak (cD (fun hc0=>?_) fun hc0=>?_)
 ·skip;have h0:l.length=0:=Decidable.byContradiction fun h=>by have:=nR h;rw [hc0] at this;cases this
  refine aj (mV ?_);refine rU (upd (upd none_ 0 (.q eN l)) 2 vN) aG ?_;refine cy _ (iz 2 51 95 2 rfl rfl) ?_;exact aV (jU 51 rfl rfl rfl h0.symm (by rw [List.length_eq_zero_iff.1 h0];rfl))
 refine aR (aj (oG (oA 52 rfl rfl rfl iq JM (by decide) (by decide) rfl rfl rfl rfl ?_)));refine mO ?_;refine oG (nz (f:=eN) (l:=([]:List Need)) (l2:=l) 53 rfl rfl rfl rfl iq JL rfl (by decide) rfl rfl rfl rfl rfl rfl (fun _=>rfl) rfl rfl rfl oo oo rfl ?_);refine mS ?_;refine rU (upd none_ 2 (.sl 53 0 ((([]:List Need)++l).length))) (ah (ah (ah aG 52 (.live ⟨[],95,2⟩)) 52 .dead) 53 (.live ⟨(enc eN (([]:List Need)++l)),95,2⟩)) ?_;exact aV (jU 53 rfl rfl rfl rfl rfl)
abbrev Z9 (c:List Bool) (a:List Need):Nat→AV:=(upd (upd (upd none_ 0 (.q eB c)) 1 (.q eN a)) 4 vN)
abbrev Z8 (c:List Bool) (a:List Need) (k i:Nat):Nat→aK:=(ah aG 1 (.live ⟨(enc eB (iX c a (eQ c.length (a.take k)) i)),4,1⟩))
abbrev Z7 (a:List Need) (j:Nat):AV:=(.rp (([.i ((a.getD j dN).point),.b ((a.getD j dN).right)]:List AV)++((enc eN a).drop ((j+1)*2))))
abbrev Z6 (c:List Bool) (a:List Need) (k i j:Nat):Nat→aK:=(ah aG 1 (.live ⟨(enc eB ((iX c a (eQ c.length (a.take k)) i).set i (li c (a.take j) i))),4,1⟩))
abbrev Z5 (c:List Bool) (a:List Need) (k:Nat):Nat→AV:=(upd (Z9 c a) 5 (.i (eQ c.length (a.take k):Int)))
abbrev Z4 (a:List Need) (k:Nat):AV:=(.rp (([.i ((a.getD k dN).point),.b ((a.getD k dN).right)]:List AV)++((enc eN a).drop ((k+1)*2))))
abbrev Z3 (c:List Bool) (a:List Need) (k i:Nat):Nat→AV:=(upd (upd (Z5 c a k) 7 (.sl 1 0 ((iX c a (eQ c.length (a.take k)) i).length))) 8 (.i (i:Int)))
theorem PO (c:List Bool) (a:List Need) (hr:c.length≤65536) (hl:a.length≤65536):jq Tryz.prog 65 [.q eB c,.q eN a] (.sl 0 0 ((dh c a).length)) [⟨(enc eB (dh c a)),4,1⟩]:=by
 refine cf (N:=78) Tryz.func65 rfl rfl (b_ rfl) (by simp) (fun w0 X bJ=>?_);refine aj (mV ?_);refine ak (aj (mO ?_));refine oG (qN eF ?_);refine mV ?_;refine rU (upd (Z9 c a) 5 (.i (c.length:Int))) aG ?_;refine aB (aj (mV ?_));refine ak (bf (cF (fun k=>⟨(upd (Z5 c a k) 6 (.i (k:Int))),aG⟩) (fun k=>True) (a.length) ?_ trivial (fun k dq hinv=>?_)))
 ·skip;exact iN
 have hN:=Q_ c.length (a.take k);refine aB (aj (mV ?_));refine mO ?_;refine oG (qN ig ?_);refine bB ?_;refine rU (upd (upd (Z5 c a k) 6 (.i (k:Int))) 15 (.b (decide ((k:Int)<(a.length:Int))))) aG ?_;refine cD (fun hc0=>?_) fun hc0=>?_
 ·skip;have hf1:=of_decide_eq_true hc0;refine aR (aB (bf (aj (mO ?_))));refine mV ?_;refine oG (qX dN ig lK ?_);refine oG (qF (Z4 a k) (Z4 a k) pG bC ?_);refine oV Y0 ?_;refine mV ?_;refine bB ?_;refine mV ?_;refine dA 7 32 (.b ((decide (((a.getD k dN).point)≥(eQ c.length (a.take k):Int)))&&(decide (((a.getD k dN).point)<8)))) ?_ ?_
  ·refine (Bool.eq_false_or_eq_true (decide (((a.getD k dN).point)≥(eQ c.length (a.take k):Int)))).elim (fun hg2=>?_) (fun hg2=>?_)
   ·skip;have hf3:=of_decide_eq_true hg2;refine oY hg2 (qM (.q eN a) ?_);refine oY hg2 (qM (.i (k:Int)) ?_);refine oY hg2 (qX dN ig lK ?_);refine oY hg2 (qF (Z4 a k) (Z4 a k) pG bC ?_);refine oY hg2 (qL (.i ((a.getD k dN).point)) Y0 ?_);refine oY hg2 (qB (.bool (decide (((a.getD k dN).point)<8))) rfl ?_);refine oG (qP (decide (((a.getD k dN).point)≥(eQ c.length (a.take k):Int))) (.b (decide (((a.getD k dN).point)<8))) hg2 ?_);exact ak (bS (bR 32 _ _ (by rw [hg2]<;>rfl) lO))
   have eb:=of_decide_eq_false hg2;refine nG hg2 ?_;refine nG hg2 ?_;refine nG hg2 ?_;refine nG hg2 ?_;refine nG hg2 ?_;refine nG hg2 ?_;refine oG (qP (decide (((a.getD k dN).point)≥(eQ c.length (a.take k):Int))) (.b false) hg2 ?_);exact ak (bS (bR 32 _ _ (by rw [hg2]<;>rfl) lO))
  refine ak (rT (upd (upd (Z5 c a k) 6 (.i (k:Int))) 32 (.b ((decide (((a.getD k dN).point)≥(eQ c.length (a.take k):Int)))&&(decide (((a.getD k dN).point)<8))))) aG ?_);refine cD (fun hc1=>?_) fun hc1=>?_
  ·skip;obtain ⟨iu,ij⟩:=fE hc1;have fB:=of_decide_eq_true iu;have gl:=of_decide_eq_true ij;refine bm (mO ?_);refine mV ?_;refine oG (qX dN ig lK ?_);refine oG (qF (Z4 a k) (Z4 a k) pG bC ?_);refine oV Y0 ?_;refine oG (qB (.int .i64 (((a.getD k dN).point)+1)) (gH om) ?_);refine mV ?_;refine ak (rT (upd (upd (Z9 c a) 5 (.i (((a.getD k dN).point)+1))) 6 (.i (k:Int))) aG ?_);refine bm (mV ?_);refine oG (qB (.int .i64 ((k+1:Nat):Int)) (addN om) ?_);refine mV ?_;refine ak ?_;show _∧_;have hs:=Ra (n:=c.length) (needs:=a) (k:=k) om hc1;refine ⟨by omega,trivial,?_⟩;exact iN (he:=(sS rfl (sS (by exact congrArg (fun n_:Int=>AV.v (.int .i64 n_)) hs) (sS rfl (sS rfl (sS rfl bQ))))))
  refine aR (bm (mV ?_));refine oG (qB (.int .i64 ((k+1:Nat):Int)) (addN om) ?_);refine mV ?_;refine ak ?_;show _∧_;have hs:=PQ (n:=c.length) (needs:=a) (k:=k) om hc1;refine ⟨by omega,trivial,?_⟩;exact iN (he:=(sS rfl (sS (by exact congrArg (fun n_:Int=>AV.v (.int .i64 n_)) hs) (sS rfl (sS rfl (sS rfl bQ))))))
 have il:=of_decide_eq_false hc0;refine cu (aj (mV ?_));refine oG (pC (n:=eQ c.length (a.take k)) (f:=eB) 51 (false:Bool) rfl rfl rfl eF ng rfl rfl rfl rfl om om rfl rfl ?_);refine mS ?_;refine ak (aB (aj (mV ?_)));refine rU (upd (upd (Z5 c a k) 7 (.sl 51 0 ((List.replicate (eQ c.length (a.take k)) (false:Bool)).length))) 8 (.i 0)) (ah aG 51 (.live ⟨(enc eB (List.replicate (eQ c.length (a.take k)) (false:Bool))),4,1⟩)) ?_;refine bf (cF (fun i=>⟨(Z3 c a k i),(Z8 c a k i)⟩) (fun i=>True) (eQ c.length (a.take k)) ?_ trivial (fun i tP hinv=>?_))
 ·skip;have hz:=NT c a (eQ c.length (a.take k));exact iI 51 1 rfl (he:=(sS rfl (sM (by exact congrArg (AV.sl 1 0) (congrArg List.length hz.symm)) (sS rfl (sS rfl (sS rfl (sS rfl bQ))))))) (eJ:=(by exact congrArg (fun l_=>ay.mk (enc eB l_) 4 1) hz))
 have hrl:=zq c a (eQ c.length (a.take k)) i;refine aB (aj (mV ?_));refine mV ?_;refine bB ?_;refine ak (cD (fun hc2=>?_) fun hc2=>?_)
 ·skip;have lz:=of_decide_eq_true hc2;refine aR (aB (bf (aj (mS ?_))));refine mV ?_;refine mO ?_;refine mV ?_;refine oG (qJ (vi c (i:Int) oo) wR ?_);refine oG (gv (k:=i) rfl rfl rfl eF ik rfl rfl oo ?_);refine oG (jy (f:=eB) (l:=iX c a (eQ c.length (a.take k)) i) (l':=(iX c a (eQ c.length (a.take k)) i).set i (hasB c (i:Int):Bool)) (hasB c (i:Int):Bool) rfl rfl rfl ik rfl rfl rfl rfl rfl (fun _=>rfl) oo rfl rfl ?_);refine rU (Z3 c a k i) (ah (Z8 c a k i) 1 (.live ⟨(enc eB ((iX c a (eQ c.length (a.take k)) i).set i (hasB c (i:Int):Bool))),4,1⟩)) ?_;refine aj (mV ?_);refine ak (bf (cF (fun j=>⟨(upd (Z3 c a k i) 9 (.i (j:Int))),(Z6 c a k i j)⟩) (fun j=>True) (a.length) ?_ trivial (fun j lr hinv=>?_)))
  ·skip;exact iI 1 1 rfl (eJ:=(by exact congrArg (fun l_=>ay.mk (enc eB l_) 4 1) rfl))
  refine aB (aj (mV ?_));refine mO ?_;refine oG (qN ig ?_);refine bB ?_;refine rU (upd (upd (Z3 c a k i) 9 (.i (j:Int))) 55 (.b (decide ((j:Int)<(a.length:Int))))) (Z6 c a k i j) ?_;refine cD (fun hc3=>?_) fun hc3=>?_
  ·skip;have lM:=of_decide_eq_true hc3;refine aR (aB (bf (aj (mO ?_))));refine mV ?_;refine oG (qX dN ig lK ?_);refine oG (qF (Z7 a j) (Z7 a j) pG bC ?_);refine oV Y0 ?_;refine mV ?_;refine bB ?_;refine mV ?_;refine dA 3 68 (.b ((((a.getD j dN).point)==(i:Int))&&(decide ((i:Int)<8)))) ?_ ?_
   ·refine (Bool.eq_false_or_eq_true (((a.getD j dN).point)==(i:Int))).elim (fun mw=>?_) (fun mw=>?_)
    ·skip;have kK:=(beq_iff_eq).1 mw;refine oY mw (qM (.i (i:Int)) ?_);refine oY mw (qB (.bool (decide ((i:Int)<8))) rfl ?_);refine oG (qP (((a.getD j dN).point)==(i:Int)) (.b (decide ((i:Int)<8))) mw ?_);exact ak (bS (bR 68 _ _ (by rw [mw]<;>rfl) lO))
    have lN:=(beq_eq_false_iff_ne).1 mw;refine nG mw ?_;refine nG mw ?_;refine oG (qP (((a.getD j dN).point)==(i:Int)) (.b false) mw ?_);exact ak (bS (bR 68 _ _ (by rw [mw]<;>rfl) lO))
   refine ak (rT (upd (upd (Z3 c a k i) 9 (.i (j:Int))) 68 (.b ((((a.getD j dN).point)==(i:Int))&&(decide ((i:Int)<8))))) (Z6 c a k i j) ?_);refine cD (fun hc4=>?_) fun hc4=>?_
   ·skip;obtain ⟨Bs,Bt⟩:=fE hc4;have nS:=(beq_iff_eq).1 Bs;have oU:=of_decide_eq_true Bt;refine bm (mS ?_);refine mV ?_;refine mO ?_;refine mV ?_;refine oG (qX dN ig lK ?_);refine oG (qF (Z7 a j) (.rp (([.b ((a.getD j dN).right)]:List AV)++((enc eN a).drop ((j+1)*2)))) HI ik ?_);refine oV o5 ?_;refine oG (gv (k:=i) rfl rfl rfl eF ik rfl rfl oo ?_);refine oG (jy (f:=eB) (l:=(iX c a (eQ c.length (a.take k)) i).set i (li c (a.take j) i)) (l':=((iX c a (eQ c.length (a.take k)) i).set i (li c (a.take j) i)).set i ((a.getD j dN).right:Bool)) ((a.getD j dN).right:Bool) rfl rfl rfl ik rfl rfl rfl rfl rfl (fun _=>rfl) oo rfl rfl ?_);refine ak (rT (upd (Z3 c a k i) 9 (.i (j:Int))) (ah (Z6 c a k i j) 1 (.live ⟨(enc eB (((iX c a (eQ c.length (a.take k)) i).set i (li c (a.take j) i)).set i ((a.getD j dN).right:Bool))),4,1⟩)) ?_);refine bm (mV ?_);refine oG (qB (.int .i64 ((j+1:Nat):Int)) (addN om) ?_);refine mV ?_;refine ak ?_;show _∧_;have hs:=PR (right:=c) (needs:=a) (i:=i) (k:=j) om hc4;refine ⟨by omega,trivial,?_⟩;exact iI 1 1 rfl (eJ:=(by exact congrArg (fun l_=>ay.mk (enc eB l_) 4 1) (by rw [List.set_set,hs])))
   refine aR (bm (mV ?_));refine oG (qB (.int .i64 ((j+1:Nat):Int)) (addN om) ?_);refine mV ?_;refine ak ?_;show _∧_;have hs:=OM (right:=c) (needs:=a) (i:=i) (k:=j) om hc4;refine ⟨by omega,trivial,?_⟩;exact iI 1 1 rfl (eJ:=(by exact congrArg (fun l_=>ay.mk (enc eB l_) 4 1) (by rw [hs])))
  have ZW:=of_decide_eq_false hc3;refine cu (bm (mV ?_));refine oG (qB (.int .i64 ((i+1:Nat):Int)) (addN om) ?_);refine mV ?_;refine ak ?_;show _∧_;have hs:=NU c a (N:=eQ c.length (a.take k)) (i:=i) om;have ht:a.take j=a:=List.take_of_length_le om;refine ⟨by omega,trivial,?_⟩;exact iI 1 1 rfl (he:=(sS rfl (sM (by exact congrArg (AV.sl 1 0) (by simp)) (sS rfl (sS rfl (sS rfl (sS rfl bQ))))))) (eJ:=(by exact congrArg (fun l_=>ay.mk (enc eB l_) 4 1) (by rw [ht];exact hs)))
 have mx:=of_decide_eq_false hc2;refine cu (aj (mS ?_));refine mS ?_;refine rU (upd none_ 4 (.sl 1 0 ((iX c a (eQ c.length (a.take k)) i).length))) (Z8 c a k i) ?_;refine aV ?_;have he:a.take k=a:=List.take_of_length_le om;have he2:=ZB (right:=c) (needs:=a) (N:=eQ c.length (a.take k)) (i:=i) (by rw [he]) om;exact jU 1 rfl rfl rfl (congrArg List.length he2) (congrArg (fun l_=>ay.mk (enc eB l_) 4 1) he2)
theorem im:YV Tryz.prog 124=some true:=by kernel_rfl
theorem i7:YV Tryz.prog 31=some false:=by kernel_rfl
theorem iw:YV Tryz.prog 33=some false:=by kernel_rfl
theorem du:YV Tryz.prog 35=some true:=by kernel_rfl
theorem BZ:YV Tryz.prog 54=some true:=by kernel_rfl
theorem JN:bO Tryz.prog 60=true:=by kernel_rfl
theorem B0:bO Tryz.prog 61=true:=by kernel_rfl
theorem B1:bO Tryz.prog 88=true:=by kernel_rfl
theorem B3:bO Tryz.prog 89=true:=by kernel_rfl
theorem B4:bO Tryz.prog 90=true:=by kernel_rfl
theorem JO:bO Tryz.prog 91=true:=by kernel_rfl
theorem IZ:rQ Tryz.prog 124=some (3,3):=by kernel_rfl
theorem ry:dD Tryz.prog 118 1=some (3,1):=by kernel_rfl
theorem pH:dD Tryz.prog 118 2=some (3,2):=by kernel_rfl
theorem ZL:dD Tryz.prog 124 0=some (3,0):=by kernel_rfl
theorem mf:dD Tryz.prog 124 1=some (3,1):=by kernel_rfl
theorem iM:dD Tryz.prog 35 1=some (31,1):=by kernel_rfl
theorem gU:dD Tryz.prog 35 3=some (33,3):=by kernel_rfl
theorem AZ:dD Tryz.prog 54 0=some (3,0):=by kernel_rfl
theorem mW:dD Tryz.prog 54 1=some (3,1):=by kernel_rfl
theorem v8:dD Tryz.prog 54 2=some (3,2):=by kernel_rfl
theorem pM:dD Tryz.prog 54 3=some (3,3):=by kernel_rfl
theorem nL:(Tryz.prog.info? 124).map (fun i=>(i.zero,i.size,i.bytes))=some (some (.agg #[(.int .i64 0),(.int .i64 0)]),2,16):=by kernel_rfl
theorem ud:(Tryz.prog.info? 3).map (fun i=>(i.zero,i.size,i.bytes))=some (some (.int .i64 0),1,8):=by kernel_rfl
theorem rL:(Tryz.prog.info? 124).map (fun i=>(i.zero,i.size))=some (some (.agg #[(.int .i64 0),(.int .i64 0)]),2):=by kernel_rfl
theorem mF:(Tryz.prog.info? 3).map (fun i=>(i.zero,i.size))=some (some (.int .i64 0),1):=by kernel_rfl
theorem lj:placesOf Tryz.prog 124=some ((.agg #[(.int .i64 0),(.int .i64 0)]),fun i=>([(0,1),(1,1)]:List (Nat×Nat)).toArray[i]?):=by kernel_rfl
theorem i4:(Tryz.prog.info? 118).map (·.size)=some 3:=by kernel_rfl
theorem dT:(Tryz.prog.info? 124).map (·.size)=some 2:=by kernel_rfl
theorem ZJ:(Tryz.prog.info? 31).map (·.size)=some 1:=by kernel_rfl
theorem gb:(Tryz.prog.info? 33).map (·.size)=some 1:=by kernel_rfl
theorem cC:(Tryz.prog.info? 35).map (·.size)=some 10:=by kernel_rfl
theorem jk:(Tryz.prog.info? 54).map (·.size)=some 4:=by kernel_rfl
theorem dF:Tryz.prog.underlying 125=some (.slice 124):=by kernel_rfl
theorem gm:Tryz.prog.underlying 3=some (.int .i64):=by kernel_rfl
theorem iR:Tryz.prog.underlying 31=some (.slice 118):=by kernel_rfl
theorem gI:Tryz.prog.underlying 33=some (.slice 54):=by kernel_rfl
theorem iU:Tryz.prog.underlying 5=some (.int .u8):=by kernel_rfl
theorem wA:(Tryz.prog.info? 124).bind (·.zero)=some (.agg #[(.int .i64 0),(.int .i64 0)]):=by kernel_rfl
theorem JP:(Tryz.prog.info? 54).bind (·.zero)=some (.agg #[(.int .i64 0),(.int .i64 0),(.int .i64 0),(.int .i64 0)]):=by kernel_rfl
abbrev Zc:Nat→AV:=(upd (upd none_ 2 (.pt 51 0)) 3 (.pt 52 0))
abbrev Zb (c:List ax) (s:Int):AV:=(.rp (([.i ((c.getD s.toNat dS).len),.i ((c.getD s.toNat dS).a),.i ((c.getD s.toNat dS).b)]:List AV)++((enc aI c).drop ((s.toNat+1)*3))))
abbrev Za (c:List ax) (s e:Int):Nat→aK:=(ah (ah aG 51 (.live ⟨[.one,.q aI c,.one,.one,.one,.one,.one,.one,.one,.one],35,1⟩)) 52 (.live ⟨[.i s,.i e],124,1⟩))
theorem z8 (c:List ax) (s e:Int) (hs:c.length≤65536):Fn Tryz.prog 88 [.agg [.one,.q aI c,.one,.one,.one,.one,.one,.one,.one,.one],.agg [.v (.int .i64 s),.v (.int .i64 e)]] (.bw [.v (.int .i64 (aF c s e)),.v (.bool (!eD c s e))]):=by
 refine cf (N:=44) Tryz.func88 rfl rfl (iY rfl) (by simp) (fun w0 X bJ=>?_);refine aj (oG (qW 51 ?_));refine oG (qW 52 ?_);refine mV ?_;refine mV ?_;refine rU (upd (upd Zc 4 (.i 0)) 5 (.b false)) (Za c s e) ?_;refine aB (aj (fG (.pt 52 0) ZL bC ?_));refine oV Y0 ?_;refine bB ?_;refine mV ?_;refine dA 7 16 (.b ((decide (s<0))||(decide (s≥(c.length:Int))))) ?_ ?_
 ·refine (Bool.eq_false_or_eq_true (decide (s<0))).elim (fun hg1=>?_) (fun hg1=>?_)
  ·skip;have hf2:=of_decide_eq_true hg1;refine nG hg1 ?_;refine nG hg1 ?_;refine nG hg1 ?_;refine nG hg1 ?_;refine nG hg1 ?_;refine nG hg1 ?_;refine oG (qP (decide (s<0)) (.b true) hg1 ?_);exact ak (bS (bR 16 _ _ (by rw [hg1]<;>rfl) lO))
  have hf3:=of_decide_eq_false hg1;refine oY hg1 (qF (.pt 52 0) (.pt 52 0) ZL bC ?_);refine oY hg1 (qL (.i s) Y0 ?_);refine oY hg1 (qF (.pt 51 0) (.pt 51 1) iM ZJ ?_);refine oY hg1 (qL (.q aI c) i7 ?_);refine oY hg1 (qN iR ?_);refine oY hg1 (qB (.bool (decide (s≥(c.length:Int)))) rfl ?_);refine oG (qP (decide (s<0)) (.b (decide (s≥(c.length:Int)))) hg1 ?_);exact ak (bS (bR 16 _ _ (by rw [hg1]<;>rfl) lO))
 refine mV ?_;refine dA 4 21 (.b (((decide (s<0))||(decide (s≥(c.length:Int))))||(decide (e<0)))) ?_ ?_
 ·refine (Bool.eq_false_or_eq_true ((decide (s<0))||(decide (s≥(c.length:Int))))).elim (fun hg4=>?_) (fun hg4=>?_)
  ·skip;refine nG hg4 ?_;refine nG hg4 ?_;refine nG hg4 ?_;refine oG (qP ((decide (s<0))||(decide (s≥(c.length:Int)))) (.b true) hg4 ?_);exact ak (bS (bR 21 _ _ (by rw [hg4]<;>rfl) lO))
  obtain ⟨iu,ij⟩:=gd hg4;have fB:=of_decide_eq_false iu;have gl:=of_decide_eq_false ij;refine oY hg4 (qF (.pt 52 0) (.pt 52 1) mf bC ?_);refine oY hg4 (qL (.i e) Y0 ?_);refine oY hg4 (qB (.bool (decide (e<0))) rfl ?_);refine oG (qP ((decide (s<0))||(decide (s≥(c.length:Int)))) (.b (decide (e<0))) hg4 ?_);exact ak (bS (bR 21 _ _ (by rw [hg4]<;>rfl) lO))
 refine mV ?_;refine dA 4 26 (.b ((((decide (s<0))||(decide (s≥(c.length:Int))))||(decide (e<0)))||(decide (e>1)))) ?_ ?_
 ·refine (Bool.eq_false_or_eq_true (((decide (s<0))||(decide (s≥(c.length:Int))))||(decide (e<0)))).elim (fun lX=>?_) (fun lX=>?_)
  ·skip;refine nG lX ?_;refine nG lX ?_;refine nG lX ?_;refine oG (qP (((decide (s<0))||(decide (s≥(c.length:Int))))||(decide (e<0))) (.b true) lX ?_);exact ak (bS (bR 26 _ _ (by rw [lX]<;>rfl) lO))
  obtain ⟨ZO,my⟩:=gd lX;obtain ⟨pZ,p5⟩:=gd ZO;have kL:=of_decide_eq_false pZ;have kK:=of_decide_eq_false p5;have lN:=of_decide_eq_false my;refine oY lX (qF (.pt 52 0) (.pt 52 1) mf bC ?_);refine oY lX (qL (.i e) Y0 ?_);refine oY lX (qB (.bool (decide (e>1))) rfl ?_);refine oG (qP (((decide (s<0))||(decide (s≥(c.length:Int))))||(decide (e<0))) (.b (decide (e>1))) lX ?_);exact ak (bS (bR 26 _ _ (by rw [lX]<;>rfl) lO))
 refine ak (rT (upd (upd (upd Zc 4 (.i 0)) 5 (.b false)) 26 (.b ((((decide (s<0))||(decide (s≥(c.length:Int))))||(decide (e<0)))||(decide (e>1))))) (Za c s e) ?_);refine cD (fun hc0=>?_) fun hc0=>?_
 ·skip;have hn:eD c s e=true:=hc0;refine aj (mV ?_);refine mV ?_;exact ak (aV (bq (av:=.bw [.v (.int .i64 0),.v (.bool false)]) rfl rfl (by rw [G6 hn,hn];rfl)))
 obtain ⟨Bs,Bt⟩:=gd hc0;obtain ⟨Bu,Bv⟩:=gd Bs;obtain ⟨tv,tw⟩:=gd Bu;have ZW:=of_decide_eq_false tv;have mx:=of_decide_eq_false tw;have nT:=of_decide_eq_false Bv;have oW:=of_decide_eq_false Bt;have hn:eD c s e=false:=hc0;have hb:=FI hn;refine aR (aB (aj (fG (.pt 52 1) mf bC ?_)));refine oV Y0 ?_;refine bB ?_;refine ak (cD (fun hc1=>?_) fun hc1=>?_)
 ·skip;have rR:=(beq_iff_eq).1 hc1;refine aj (fG (.pt 51 1) iM ZJ ?_);refine oO i7 ?_;refine fG (.pt 52 0) ZL bC ?_;refine oV Y0 ?_;refine oG (YZ dS rfl rfl rfl iR i4 rfl rfl (fun _=>rfl) rfl om oo ?_);refine oG (qF (Zb c s) (.rp (([.i ((c.getD s.toNat dS).a),.i ((c.getD s.toNat dS).b)]:List AV)++((enc aI c).drop ((s.toNat+1)*3)))) ry bC ?_);refine oV Y0 ?_;refine mV ?_;refine mV ?_;refine rU (upd (upd Zc 4 (.i ((c.getD s.toNat dS).a))) 5 (.b true)) (Za c s e) ?_;exact aV (bq (av:=.bw [.v (.int .i64 ((c.getD s.toNat dS).a)),.v (.bool true)]) rfl rfl (by rw [HJ hn (by simpa using hc1),hn];rfl))
 have tQ:=(beq_eq_false_iff_ne).1 hc1;refine aR (aj (fG (.pt 51 1) iM ZJ ?_));refine oO i7 ?_;refine fG (.pt 52 0) ZL bC ?_;refine oV Y0 ?_;refine oG (YZ dS rfl rfl rfl iR i4 rfl rfl (fun _=>rfl) rfl om oo ?_);refine oG (qF (Zb c s) (.rp (([.i ((c.getD s.toNat dS).b)]:List AV)++((enc aI c).drop ((s.toNat+1)*3)))) pH bC ?_);refine oV Y0 ?_;refine mV ?_;refine mV ?_;refine rU (upd (upd none_ 4 (.i ((c.getD s.toNat dS).b))) 5 (.b true)) (Za c s e) ?_;exact aV (bq (av:=.bw [.v (.int .i64 ((c.getD s.toNat dS).b)),.v (.bool true)]) rfl rfl (by rw [HK hn (by simpa using hc1),hn];rfl))
abbrev Zk (c:List ax) (k:Nat):AV:=(.rp (([.i ((c.getD k dS).b)]:List AV)++((enc aI c).drop ((k+1)*3))))
abbrev Zi (c:List ax):ay:=⟨[.one,.q aI c,.one,.one,.one,.one,.one,.one,.one,.one],35,1⟩
abbrev Zf (c:List ax) (k:Nat):AV:=(.rp (([.i ((c.getD k dS).len),.i ((c.getD k dS).a),.i ((c.getD k dS).b)]:List AV)++((enc aI c).drop ((k+1)*3))))
abbrev Ze (n:Int):Nat→AV:=(upd (upd (upd none_ 1 (.i n)) 2 (.pt 2 0)) 4 vN)
abbrev Zd (c:List ax) (n:Int) (k:Nat):Nat→aK:=(ah (ah aG 1 (.live ⟨(enc bH (ek c n k)),124,2⟩)) 2 (.live (Zi c)))
abbrev Zj (n:Int) (c:List ax) (k:Nat):Nat→AV:=(upd (upd (Ze n) 5 (.sl 53 0 (((ek c n k)++[(⟨(k:Int),0⟩:En)]).length))) 6 (.i (k:Int)))
abbrev Zh (n:Int) (c:List ax) (k:Nat):Nat→AV:=(upd (upd (Ze n) 5 (.sl 1 0 ((ek c n k).length))) 6 (.i (k:Int)))
abbrev Zg (c:List ax) (n:Int) (k:Nat):Nat→aK:=(ah (ah (Zd c n k) 1 .dead) 53 (.live ⟨(enc bH ((ek c n k)++[(⟨(k:Int),0⟩:En)])),124,2⟩))
theorem G7 (c:List ax) (n:Int) (hs:c.length≤65536):Fn Tryz.prog 91 [.agg [.one,.q aI c,.one,.one,.one,.one,.one,.one,.one,.one],.v (.int .i64 n)] (.q bH (cM c n)):=by
 refine cf (N:=41) Tryz.func91 rfl rfl (b_ rfl) (by simp) (fun w0 X bJ=>?_);refine aj (oG (qW 51 ?_));refine mV ?_;refine ak (aj (mV ?_));refine ak (aB (aj (mV ?_)));refine rU (upd (upd (upd (upd (upd none_ 1 (.i n)) 2 (.pt 51 0)) 4 vN) 5 vN) 6 (.i 0)) (ah aG 51 (.live (Zi c))) ?_;refine bf (cF (fun k=>⟨(Zh n c k),(Zd c n k)⟩) (fun k=>True) (c.length) ?_ trivial (fun k dq hinv=>?_))
 ·skip;refine (iz 5 52 124 2 rfl rfl).trans ?_;exact iL [(52,1),(51,2)] [((52,1),.live _),((51,2),.live _)] ⟨aP (o:=⟨[],124,2⟩) rfl rfl,aP rfl rfl,trivial⟩
 have hle:=vu c n k;refine aB (aj (mV ?_));refine fG (.pt 2 1) iM ZJ ?_;refine oO i7 ?_;refine oG (qN iR ?_);refine bB ?_;refine rU (upd (Zh n c k) 11 (.b (decide ((k:Int)<(c.length:Int))))) (Zd c n k) ?_;refine cD (fun hc0=>?_) fun hc0=>?_
 ·skip;have hf1:=of_decide_eq_true hc0;refine aR (aB (bf (aB (aj (fG (.pt 2 1) iM ZJ ?_)))));refine oO i7 ?_;refine mV ?_;refine oG (qX dS iR i4 ?_);refine oG (qF (Zf c k) (.rp (([.i ((c.getD k dS).a),.i ((c.getD k dS).b)]:List AV)++((enc aI c).drop ((k+1)*3)))) ry bC ?_);refine oV Y0 ?_;refine mV ?_;refine bB ?_;refine rU (upd (Zh n c k) 21 (.b (((c.getD k dS).a)==n))) (Zd c n k) ?_;refine cD (fun hc1=>?_) fun hc1=>?_
  ·skip;have hf2:=(beq_iff_eq).1 hc1;refine bm (mS ?_);refine mV ?_;refine oG (qD lj ?_);refine oG (Y8 rfl rfl rfl dF rL (by decide) (by decide) rfl rfl ?_);refine oG (hS (f:=bH) (l:=ek c n k) 53 (⟨(k:Int),0⟩:En) rfl rfl rfl rfl dF nL rfl (by decide) rfl rfl rfl rfl rfl rfl (fun _=>rfl) rfl rfl oo oo rfl ?_);refine mS ?_;refine ak (rT (Zj n c k) (Zg c n k) ?_);refine aj (fG (.pt 2 1) iM ZJ ?_);refine oO i7 ?_;refine mV ?_;refine oG (qX dS iR i4 ?_);refine oG (qF (Zf c k) (Zk c k) pH bC ?_);refine oV Y0 ?_;refine mV ?_;refine bB ?_;refine rU (upd (Zj n c k) 34 (.b (((c.getD k dS).b)==n))) (Zg c n k) ?_;refine cD (fun hc2=>?_) fun hc2=>?_
   ·skip;have hf3:=(beq_iff_eq).1 hc2;refine bm (mS ?_);refine mV ?_;refine oG (qD lj ?_);refine oG (Y8 rfl rfl rfl dF rL (by decide) (by decide) rfl rfl ?_);refine oG (hS (f:=bH) (l:=(ek c n k)++[(⟨(k:Int),0⟩:En)]) 54 (⟨(k:Int),1⟩:En) rfl rfl rfl rfl dF nL rfl (by decide) rfl rfl rfl rfl rfl rfl (fun _=>rfl) rfl rfl oo oo rfl ?_);refine mS ?_;refine ak (rT (upd (upd (Ze n) 5 (.sl 54 0 ((((ek c n k)++[(⟨(k:Int),0⟩:En)])++[(⟨(k:Int),1⟩:En)]).length))) 6 (.i (k:Int))) (ah (ah (Zg c n k) 53 .dead) 54 (.live ⟨(enc bH (((ek c n k)++[(⟨(k:Int),0⟩:En)])++[(⟨(k:Int),1⟩:En)])),124,2⟩)) ?_);refine bm (mV ?_);refine oG (qB (.int .i64 ((k+1:Nat):Int)) (addN om) ?_);refine mV ?_;refine ak ?_;show _∧_;have a1:(c.getD k dS).a=n:=by simpa using hc1
    have a2:(c.getD k dS).b=n:=by simpa using hc2
    have hs_:=PS a1 a2;refine ⟨by omega,trivial,?_⟩;exact iL [(54,1),(2,2)] [((54,1),.live _),((2,2),.live _)] ⟨aP rfl (by exact congrArg (fun l_=>ay.mk (enc bH l_) 124 2) hs_),aP rfl rfl,trivial⟩ (he:=(sS rfl (sM (by exact congrArg (AV.sl 1 0) (congrArg List.length hs_.symm)) (sS rfl (sM rfl (sS rfl bQ))))))
   have eb:=(beq_eq_false_iff_ne).1 hc2;refine aR (bm (mV ?_));refine oG (qB (.int .i64 ((k+1:Nat):Int)) (addN om) ?_);refine mV ?_;refine ak ?_;show _∧_;have a1:(c.getD k dS).a=n:=by simpa using hc1
   have a2:¬(c.getD k dS).b=n:=by simpa using hc2
   have hs_:=PT a1 a2;refine ⟨by omega,trivial,?_⟩;exact iL [(53,1),(2,2)] [((53,1),.live _),((2,2),.live _)] ⟨aP rfl (by exact congrArg (fun l_=>ay.mk (enc bH l_) 124 2) hs_),aP rfl rfl,trivial⟩ (he:=(sS rfl (sM (by exact congrArg (AV.sl 1 0) (congrArg List.length hs_.symm)) (sS rfl (sM rfl (sS rfl bQ))))))
  have g0:=(beq_eq_false_iff_ne).1 hc1;refine aR (aj (fG (.pt 2 1) iM ZJ ?_));refine oO i7 ?_;refine mV ?_;refine oG (qX dS iR i4 ?_);refine oG (qF (Zf c k) (Zk c k) pH bC ?_);refine oV Y0 ?_;refine mV ?_;refine bB ?_;refine rU (upd (Zh n c k) 34 (.b (((c.getD k dS).b)==n))) (Zd c n k) ?_;refine cD (fun hc3=>?_) fun hc3=>?_
  ·skip;have fB:=(beq_iff_eq).1 hc3;refine bm (mS ?_);refine mV ?_;refine oG (qD lj ?_);refine oG (Y8 rfl rfl rfl dF rL (by decide) (by decide) rfl rfl ?_);refine oG (hS (f:=bH) (l:=ek c n k) 55 (⟨(k:Int),1⟩:En) rfl rfl rfl rfl dF nL rfl (by decide) rfl rfl rfl rfl rfl rfl (fun _=>rfl) rfl rfl oo oo rfl ?_);refine mS ?_;refine ak (rT (upd (upd (Ze n) 5 (.sl 55 0 (((ek c n k)++[(⟨(k:Int),1⟩:En)]).length))) 6 (.i (k:Int))) (ah (ah (Zd c n k) 1 .dead) 55 (.live ⟨(enc bH ((ek c n k)++[(⟨(k:Int),1⟩:En)])),124,2⟩)) ?_);refine bm (mV ?_);refine oG (qB (.int .i64 ((k+1:Nat):Int)) (addN om) ?_);refine mV ?_;refine ak ?_;show _∧_;have a1:¬(c.getD k dS).a=n:=by simpa using hc1
   have a2:(c.getD k dS).b=n:=by simpa using hc3
   have hs_:=PU a1 a2;refine ⟨by omega,trivial,?_⟩;exact iL [(55,1),(2,2)] [((55,1),.live _),((2,2),.live _)] ⟨aP rfl (by exact congrArg (fun l_=>ay.mk (enc bH l_) 124 2) hs_),aP rfl rfl,trivial⟩ (he:=(sS rfl (sM (by exact congrArg (AV.sl 1 0) (congrArg List.length hs_.symm)) (sS rfl (sM rfl (sS rfl bQ))))))
  have gl:=(beq_eq_false_iff_ne).1 hc3;refine aR (bm (mV ?_));refine oG (qB (.int .i64 ((k+1:Nat):Int)) (addN om) ?_);refine mV ?_;refine ak ?_;show _∧_;have a1:¬(c.getD k dS).a=n:=by simpa using hc1
  have a2:¬(c.getD k dS).b=n:=by simpa using hc3
  have hs_:=PV a1 a2;refine ⟨by omega,trivial,?_⟩;exact iL [(1,1),(2,2)] [((1,1),.live _),((2,2),.live _)] ⟨aP rfl (by exact congrArg (fun l_=>ay.mk (enc bH l_) 124 2) hs_),aP rfl rfl,trivial⟩ (he:=(sS rfl (sM (by exact congrArg (AV.sl 1 0) (congrArg List.length hs_.symm)) (sS rfl (sM rfl (sS rfl bQ))))))
 have il:=of_decide_eq_false hc0;refine cu (aj (mS ?_));refine mS ?_;refine ak ?_;have he:ek c n k=cM c n:=by unfold cM;congr 1;omega
 refine cy _ (d8 rfl (fun _ h=>h) (dy 4 (.q bH (ek c n k)) (fv (id:=1) (n:=(ek c n k).length) (o:=⟨(enc bH (ek c n k)),124,2⟩) rfl (YW (fun _=>rfl) (by first|rfl|(simp;done)))) d9)) ?_;exact aV (bq (av:=.ro ((ek c n k).length) (enc bH (ek c n k))) rfl rfl (by rw [he]))
abbrev Zn (n:Int) (k:Nat):Nat→AV:=(upd (upd (upd (upd none_ 1 (.i n)) 2 (.pt 2 0)) 4 (.i 0)) 5 (.i (k:Int)))
abbrev Zm (a:List aH) (k:Nat):AV:=(.rp (([.i ((a.getD k dP).node),.i ((a.getD k dP).stem),.i ((a.getD k dP).left),.i ((a.getD k dP).right)]:List AV)++((enc aE a).drop ((k+1)*4))))
abbrev Zl (a:List aH):ay:=⟨[.one,.one,.one,.q aE a,.one,.one,.one,.one,.one,.one],35,1⟩
theorem zN (a:List aH) (n:Int) (hp:a.length≤65536):Fn Tryz.prog 89 [.agg [.one,.one,.one,.q aE a,.one,.one,.one,.one,.one,.one],.v (.int .i64 n)] (.v (.int .i64 (aX a n))):=by
 refine cf (N:=22) Tryz.func89 rfl rfl (b_ rfl) (by simp) (fun w0 X bJ=>?_);refine aj (oG (qW 51 ?_));refine mV ?_;refine ak (aB (aj (mV ?_)));refine ak (bf (cF (fun k=>⟨(Zn n k),(ah aG 2 (.live (Zl a)))⟩) (fun k=>(a.take k).any (fun p=>decide (p.node=n))=false) (a.length) ?_ (by simp) (fun k dq hinv=>?_)))
 ·skip;exact iI 51 2 (o:=(Zl a)) rfl
 refine aB (aj (mV ?_));refine fG (.pt 2 3) gU gb ?_;refine oO iw ?_;refine oG (qN gI ?_);refine bB ?_;refine rU (upd (Zn n k) 10 (.b (decide ((k:Int)<(a.length:Int))))) (ah aG 2 (.live (Zl a))) ?_;refine cD (fun hc0=>?_) fun hc0=>?_
 ·skip;have hf1:=of_decide_eq_true hc0;refine aR (aB (bf (aj (fG (.pt 2 3) gU gb ?_))));refine oO iw ?_;refine mV ?_;refine oG (qX dP gI jk ?_);refine oG (qF (Zm a k) (Zm a k) AZ bC ?_);refine oV Y0 ?_;refine mV ?_;refine bB ?_;refine rU (upd (Zn n k) 20 (.b (((a.getD k dP).node)==n))) (ah aG 2 (.live (Zl a))) ?_;refine cD (fun hc1=>?_) fun hc1=>?_
  ·skip;have hf2:=(beq_iff_eq).1 hc1;refine aj (mV ?_);refine mV ?_;exact ak (aV (bq (av:=.v (.int .i64 (k:Int))) rfl rfl (by unfold aX;rw [hJ dP om hinv (by simpa using hc1)]<;>rfl)))
  have hf3:=(beq_eq_false_iff_ne).1 hc1;refine aR (bm (mV ?_));refine oG (qB (.int .i64 ((k+1:Nat):Int)) (addN om) ?_);refine mV ?_;refine ak ?_;show _∧_;refine ⟨by omega,(gT dP om hinv (by simpa using hc1)),?_⟩;exact iI 2 2 rfl
 have eb:=of_decide_eq_false hc0;refine cu (aj (mV ?_));exact ak (aV (bq (av:=.v (.int .i64 (-1))) rfl rfl (by unfold aX;rw [iK om hinv]<;>rfl)))
abbrev Zq (a:List ax):List AV:=[.one,.q aI a,.one,.one,.one,.one,.one,.one,.one,.one]
abbrev Zp (a:List ax) (n:Int) (k:Nat):AV:=(.rp (([.i (((cM a n).getD k dE).sec),.i (((cM a n).getD k dE).en)]:List AV)++((enc bH (cM a n)).drop ((k+1)*2))))
abbrev Zo (s:Int) (a:List ax) (n:Int):Nat→AV:=(upd (upd (upd none_ 1 (.i s)) 6 vN) 7 (.q bH (cM a n)))
theorem Aq (a:List ax) (s n:Int) (hs:a.length≤65536):Fn Tryz.prog 90 [.agg [.one,.q aI a,.one,.one,.one,.one,.one,.one,.one,.one],.v (.int .i64 s),.v (.int .i64 n)] (.q bH (dU a s n)):=by
 refine cf (N:=30) Tryz.func90 rfl rfl (b_ rfl) (by simp) (fun w0 X bJ=>?_);refine aj (oG (qW 51 ?_));refine mV ?_;refine ak (aj (oG (ZI (Zq a) du cC ?_)));refine mV ?_;refine oG (qJ (G7 a n oo) JO ?_);refine mO ?_;refine rU (Zo s a n) (ah aG 51 (.live ⟨(Zq a),35,1⟩)) ?_;refine aB (aj (mV ?_));refine ak (bf (cF (fun k=>⟨(upd (Zo s a n) 8 (.i (k:Int))),aG⟩) (fun k=>((cM a n).take k).any (fun e=>decide (e.sec=s))=false) ((cM a n).length) ?_ (by simp) (fun k dq hinv=>?_)))
 ·skip;exact iN
 refine aB (aj (mV ?_));refine mO ?_;refine oG (qN dF ?_);refine bB ?_;refine rU (upd (upd (Zo s a n) 8 (.i (k:Int))) 15 (.b (decide ((k:Int)<((cM a n).length:Int))))) aG ?_;refine cD (fun hc0=>?_) fun hc0=>?_
 ·skip;have hf1:=of_decide_eq_true hc0;have hle:=vv a n;refine aR (aB (bf (aj (mO ?_))));refine mV ?_;refine oG (qX dE dF dT ?_);refine oG (qF (Zp a n k) (Zp a n k) ZL bC ?_);refine oV Y0 ?_;refine mV ?_;refine bB ?_;refine rU (upd (upd (Zo s a n) 8 (.i (k:Int))) 24 (.b ((((cM a n).getD k dE).sec)==s))) aG ?_;refine cD (fun hc1=>?_) fun hc1=>?_
  ·skip;have hf2:=(beq_iff_eq).1 hc1;refine aj (mO ?_);refine mV ?_;refine mV ?_;refine oG (qB (.int .i64 ((k+1:Nat):Int)) (addN om) ?_);refine oG (zv (l:=k) (hgh:=k+1) (cells':=enc bH (((cM a n).take (k+1)).drop k)) rfl rfl rfl dF dT rfl ⟨_,rfl⟩ ⟨_,rfl⟩ oo oo (pN (f:=bH) (fun _=>rfl) _ _ _) ?_);refine mO ?_;refine rU (upd (upd (upd (upd none_ 1 (.i s)) 6 (.ro ((k+1)-k) (enc bH (((cM a n).take (k+1)).drop k)))) 7 (.q bH (cM a n))) 8 (.i (k:Int))) aG ?_;exact aV (bq (av:=.ro ((k+1)-k) (enc bH (((cM a n).take (k+1)).drop k))) rfl rfl (by unfold dU;rw [FP om hinv (by simpa using hc1), ←take1_drop om,List.drop_take,show k+1-k=1 by omega];simp;omega))
  have hf3:=(beq_eq_false_iff_ne).1 hc1;refine aR (bm (mV ?_));refine oG (qB (.int .i64 ((k+1:Nat):Int)) (addN om) ?_);refine mV ?_;refine ak ?_;show _∧_;refine ⟨by omega,(gT dE om hinv (by simpa using hc1)),?_⟩;exact iN
 have eb:=of_decide_eq_false hc0;refine cu (aj (mV ?_));refine ak (cy _ (d8 rfl (fun _ h=>h) (dy 6 (.ro 0 []) .nil d9)) ?_);exact aV (bq (av:=.ro 0 []) rfl rfl (by unfold dU;rw [FQ om hinv]<;>rfl))
abbrev CK (a:List ax) (s e:Int):AV:=(.q bH (cM a (aF a s e)))
abbrev CL:Nat→AV:=(upd (upd none_ 2 (.pt 51 0)) 3 (.pt 52 0))
abbrev KJ (a:List ax) (s e:Int) (k:Nat):Nat→AV:=(upd (upd (upd (upd (upd none_ 3 (.pt 3 0)) 4 vN) 8 (.sl 1 0 ((iZ a (aF a s e) s e k).length))) 10 (CK a s e)) 11 (.i (k:Int)))
abbrev Zz (c:List aH) (a:List ax) (s e:Int):List AV:=[.i ((c.getD (aX c (aF a s e)).toNat dP).node),.i ((c.getD (aX c (aF a s e)).toNat dP).stem),.i ((c.getD (aX c (aF a s e)).toNat dP).left),.i ((c.getD (aX c (aF a s e)).toNat dP).right)]
abbrev Zx (a:List ax) (s e:Int) (k:Nat):List AV:=[.i (((cM a (aF a s e)).getD k dE).sec),.i (((cM a (aF a s e)).getD k dE).en)]
abbrev Zw (a:List ax) (s e:Int) (k:Nat):En:=(⟨((cM a (aF a s e)).getD k dE).sec,((cM a (aF a s e)).getD k dE).en⟩:En)
abbrev Zv (a:List ax) (c:List aH) (s e:Int):List AV:=(enc bH ((([]:List En)++(dU a ((c.getD (aX c (aF a s e)).toNat dP).left) (aF a s e)))++(dU a ((c.getD (aX c (aF a s e)).toNat dP).right) (aF a s e))))
abbrev Zu (a:List ax) (s e:Int):Nat→AV:=(upd (upd CL 4 vN) 5 (.i (aF a s e)))
abbrev Zt (a:List ax) (s e:Int) (k:Nat):Nat→aK:=(ah (ah aG 1 (.live ⟨(enc bH (iZ a (aF a s e) s e k)),124,2⟩)) 3 (.live ⟨[.i s,.i e],124,1⟩))
abbrev Zs (a:List ax) (c:List aH):List AV:=[.one,.q aI a,.one,.q aE c,.one,.one,.one,.one,.one,.one]
abbrev Zy (a:List ax) (c:List aH) (s e:Int):Nat→aK:=(ah (ah aG 51 (.live ⟨(Zs a c),35,1⟩)) 52 (.live ⟨[.i s,.i e],124,1⟩))
abbrev Zr (a:List ax) (c:List aH) (s e:Int):Nat→aK:=(ah (ah (Zy a c s e) 53 (.live ⟨[.i 0,.i 0,.i 0,.i 0],54,1⟩)) 53 (.live ⟨(Zz c a s e),54,1⟩))
abbrev KL (a:List ax) (c:List aH) (s e:Int):Nat→aK:=(ah (ah (ah (Zr a c s e) 54 (.live ⟨[],124,2⟩)) 54 .dead) 55 (.live ⟨(enc bH (([]:List En)++(dU a ((c.getD (aX c (aF a s e)).toNat dP).left) (aF a s e)))),124,2⟩))
theorem F2 (a:List ax) (c:List aH) (s e:Int) (hs:a.length≤65536) (hp:c.length≤65536):Fn Tryz.prog 60 [.agg [.one,.q aI a,.one,.q aE c,.one,.one,.one,.one,.one,.one],.agg [.v (.int .i64 s),.v (.int .i64 e)]] (.q bH (bo a c s e)):=by
 refine cf (N:=92) Tryz.func60 rfl rfl (b_ rfl) (by simp) (fun w0 X bJ=>?_);refine aj (oG (qW 51 ?_));refine oG (qW 52 ?_);refine mV ?_;refine ak (aj (oG (ZI (Zs a c) du cC ?_)));refine oG (ZI [.i s,.i e] im dT ?_);refine oG (qC (z8 a s e oo) B1 ?_);refine mG (.bw [.i (aF a s e),.b (!eD a s e)]) ?_;refine oG (qE ?_);refine oG (qE ?_);refine mV ?_;refine mV ?_;refine rU (upd (Zu a s e) 6 (.b (!eD a s e))) (Zy a c s e) ?_;refine aB (aj (mV ?_));refine oG (er rfl rfl rfl rfl ?_);refine ak (cD (fun hc0=>?_) fun hc0=>?_)
 ·skip;have hf1:=gF hc0;have hn:eD a s e=true:=by simpa using hc0
  refine aj (mV ?_);refine ak (cy _ (d8 rfl (fun _ h=>h) (dy 4 (.ro 0 []) .nil d9)) ?_);exact aV (bq (av:=.ro 0 []) rfl rfl (by rw [Gr hn];rfl))
 have hf2:=gG hc0;have hn:eD a s e=false:=by simpa using hc0
 have fT:=q_ c (aF a s e);refine aR (aj (oG (ZI (Zs a c) du cC ?_)));refine mV ?_;refine oG (qC (zN c (aF a s e) oo) B3 ?_);refine mV ?_;refine rU (upd (Zu a s e) 7 (.i (aX c (aF a s e)))) (Zy a c s e) ?_;refine aj (mV ?_);refine ak (aB (aj (mV ?_)));refine bB ?_;refine ak (cD (fun hc1=>?_) fun hc1=>?_)
 ·skip;have hf3:=of_decide_eq_true hc1;have hi:0≤aX c (aF a s e):=by simpa using hc1
  have ho1:=pF a (c.getD (aX c (aF a s e)).toNat dP).left (aF a s e);have ho2:=pF a (c.getD (aX c (aF a s e)).toNat dP).right (aF a s e);refine aj (fG (.pt 51 3) gU gb ?_);refine oO iw ?_;refine mV ?_;refine oG (YZ dP rfl rfl rfl gI jk rfl rfl (fun _=>rfl) rfl om oo ?_);refine oG (ZI (Zz c a s e) BZ jk ?_);refine oG (fW 53 rfl rfl rfl rfl JP rfl ?_);refine oG (qS jk ?_);refine rU (upd (upd (Zu a s e) 8 vN) 9 (.pt 53 0)) (Zr a c s e) ?_;refine aB (aj (fG (.pt 52 0) ZL bC ?_));refine oV Y0 ?_;refine fG (.pt 53 1) mW bC ?_;refine oV Y0 ?_;refine bB ?_;refine rU (upd (upd (upd (Zu a s e) 8 vN) 9 (.pt 53 0)) 34 (.b (s==((c.getD (aX c (aF a s e)).toNat dP).stem)))) (Zr a c s e) ?_;refine cD (fun hc2=>?_) fun hc2=>?_
  ·skip;have eb:=(beq_iff_eq).1 hc2;have hq:s=(c.getD (aX c (aF a s e)).toNat dP).stem:=by simpa using hc2
   refine aj (mV ?_);refine oG (ZI (Zs a c) du cC ?_);refine fG (.pt 53 2) v8 bC ?_;refine oV Y0 ?_;refine mV ?_;refine oG (qC (Aq a ((c.getD (aX c (aF a s e)).toNat dP).left) (aF a s e) oo) B4 ?_);refine oG (Gs 35 54 124 2 rfl rfl (nz (f:=bH) (l:=([]:List En)) (l2:=dU a ((c.getD (aX c (aF a s e)).toNat dP).left) (aF a s e)) 55 rfl rfl rfl rfl dF nL rfl (by decide) rfl rfl rfl rfl rfl rfl (fun _=>rfl) rfl rfl rfl oo oo rfl ?_));refine mS ?_;refine rU (upd (upd (Zu a s e) 8 (.sl 55 0 ((([]:List En)++(dU a ((c.getD (aX c (aF a s e)).toNat dP).left) (aF a s e))).length))) 9 (.pt 53 0)) (KL a c s e) ?_;refine aj (mS ?_);refine oG (ZI (Zs a c) du cC ?_);refine fG (.pt 53 3) pM bC ?_;refine oV Y0 ?_;refine mV ?_;refine oG (qC (Aq a ((c.getD (aX c (aF a s e)).toNat dP).right) (aF a s e) oo) B4 ?_);refine oG (nz (f:=bH) (l:=([]:List En)++(dU a ((c.getD (aX c (aF a s e)).toNat dP).left) (aF a s e))) (l2:=dU a ((c.getD (aX c (aF a s e)).toNat dP).right) (aF a s e)) 56 rfl rfl rfl rfl dF nL rfl (by decide) rfl rfl rfl rfl rfl rfl (fun _=>rfl) rfl rfl rfl oo oo rfl ?_);refine mS ?_;refine rU (upd (upd (upd (upd CL 4 (.sl 56 0 (((([]:List En)++(dU a ((c.getD (aX c (aF a s e)).toNat dP).left) (aF a s e)))++(dU a ((c.getD (aX c (aF a s e)).toNat dP).right) (aF a s e))).length))) 5 (.i (aF a s e))) 8 (.sl 55 0 ((([]:List En)++(dU a ((c.getD (aX c (aF a s e)).toNat dP).left) (aF a s e))).length))) 9 (.pt 53 0)) (ah (ah (KL a c s e) 55 .dead) 56 (.live ⟨(Zv a c s e),124,2⟩)) ?_;refine cy _ (d8 rfl (fun _ h=>h) (dy 4 (.q bH ((([]:List En)++(dU a ((c.getD (aX c (aF a s e)).toNat dP).left) (aF a s e)))++(dU a ((c.getD (aX c (aF a s e)).toNat dP).right) (aF a s e)))) (fv (id:=56) (n:=((([]:List En)++(dU a ((c.getD (aX c (aF a s e)).toNat dP).left) (aF a s e)))++(dU a ((c.getD (aX c (aF a s e)).toNat dP).right) (aF a s e))).length) (o:=⟨(Zv a c s e),124,2⟩) rfl (YW (fun _=>rfl) (by first|rfl|(simp;done)))) d9)) ?_;exact aV (bq (av:=.ro (((([]:List En)++(dU a ((c.getD (aX c (aF a s e)).toNat dP).left) (aF a s e)))++(dU a ((c.getD (aX c (aF a s e)).toNat dP).right) (aF a s e))).length) (Zv a c s e)) rfl rfl (by rw [FR hn hi hq];rfl))
  have g0:=(beq_eq_false_iff_ne).1 hc2;have hq:¬s=(c.getD (aX c (aF a s e)).toNat dP).stem:=by simpa using hc2
  refine aR (aB (aj (fG (.pt 52 0) ZL bC ?_)));refine oV Y0 ?_;refine fG (.pt 53 2) v8 bC ?_;refine oV Y0 ?_;refine bB ?_;refine mV ?_;refine dA 6 60 (.b ((s==((c.getD (aX c (aF a s e)).toNat dP).left))||(s==((c.getD (aX c (aF a s e)).toNat dP).right)))) ?_ ?_
  ·refine (Bool.eq_false_or_eq_true (s==((c.getD (aX c (aF a s e)).toNat dP).left))).elim (fun eW=>?_) (fun eW=>?_)
   ·skip;have gl:=(beq_iff_eq).1 eW;refine nG eW ?_;refine nG eW ?_;refine nG eW ?_;refine nG eW ?_;refine nG eW ?_;refine oG (qP (s==((c.getD (aX c (aF a s e)).toNat dP).left)) (.b true) eW ?_);exact ak (bS (bR 60 _ _ (by rw [eW]<;>rfl) lO))
   have il:=(beq_eq_false_iff_ne).1 eW;refine oY eW (qF (.pt 52 0) (.pt 52 0) ZL bC ?_);refine oY eW (qL (.i s) Y0 ?_);refine oY eW (qF (.pt 53 0) (.pt 53 3) pM bC ?_);refine oY eW (qL (.i ((c.getD (aX c (aF a s e)).toNat dP).right)) Y0 ?_);refine oY eW (qB (.bool (s==((c.getD (aX c (aF a s e)).toNat dP).right))) rfl ?_);refine oG (qP (s==((c.getD (aX c (aF a s e)).toNat dP).left)) (.b (s==((c.getD (aX c (aF a s e)).toNat dP).right))) eW ?_);exact ak (bS (bR 60 _ _ (by rw [eW]<;>rfl) lO))
  refine ak (rT (upd (upd (upd (Zu a s e) 8 vN) 9 (.pt 53 0)) 60 (.b ((s==((c.getD (aX c (aF a s e)).toNat dP).left))||(s==((c.getD (aX c (aF a s e)).toNat dP).right))))) (Zr a c s e) ?_);refine cD (fun hc3=>?_) fun hc3=>?_
  ·skip;have hl:s=(c.getD (aX c (aF a s e)).toNat dP).left∨s=(c.getD (aX c (aF a s e)).toNat dP).right:=by simpa using hc3
   refine aj (oG (ZI (Zs a c) du cC ?_));refine fG (.pt 53 1) mW bC ?_;refine oV Y0 ?_;refine mV ?_;refine oG (qC (Aq a ((c.getD (aX c (aF a s e)).toNat dP).stem) (aF a s e) oo) B4 ?_);refine mO ?_;refine rU (upd (upd (upd CL 4 (.q bH (dU a ((c.getD (aX c (aF a s e)).toNat dP).stem) (aF a s e)))) 5 (.i (aF a s e))) 8 vN) (Zr a c s e) ?_;exact aV (bq (av:=.ro ((dU a ((c.getD (aX c (aF a s e)).toNat dP).stem) (aF a s e)).length) (enc bH (dU a ((c.getD (aX c (aF a s e)).toNat dP).stem) (aF a s e)))) rfl rfl (by rw [zE hn hi hq hl]))
  obtain ⟨ZO,my⟩:=gd hc3;have lM:=(beq_eq_false_iff_ne).1 ZO;have kL:=(beq_eq_false_iff_ne).1 my;have hl:¬(s=(c.getD (aX c (aF a s e)).toNat dP).left∨s=(c.getD (aX c (aF a s e)).toNat dP).right):=by simpa using hc3
  refine aR (aj (mV ?_));refine ak (cy _ (d8 rfl (fun _ h=>h) (dy 4 (.ro 0 []) .nil d9)) ?_);exact aV (bq (av:=.ro 0 []) rfl rfl (by rw [F3 hn hi hq hl];rfl))
 have kK:=of_decide_eq_false hc1;have hi:¬0≤aX c (aF a s e):=by simpa using hc1
 have hle0:=vv a (aF a s e);refine aR (aj (oG (ZI (Zs a c) du cC ?_)));refine mV ?_;refine oG (qC (G7 a (aF a s e) oo) JO ?_);refine mO ?_;refine rU (upd (upd (upd (upd none_ 3 (.pt 52 0)) 4 vN) 8 vN) 10 (CK a s e)) (Zy a c s e) ?_;refine aB (aj (mV ?_));refine ak (bf (cF (fun k=>⟨(KJ a s e k),(Zt a s e k)⟩) (fun k=>True) ((cM a (aF a s e)).length) ?_ trivial (fun k dq hinv=>?_)))
 ·skip;refine (iz 8 57 124 2 rfl rfl).trans ?_;exact iL [(57,1),(52,3)] [((57,1),.live _),((52,3),.live _)] ⟨aP (o:=⟨[],124,2⟩) rfl rfl,aP rfl rfl,trivial⟩
 have hle:=Oa a (aF a s e) s e k;refine aB (aj (mV ?_));refine mO ?_;refine oG (qN dF ?_);refine bB ?_;refine rU (upd (KJ a s e k) 72 (.b (decide ((k:Int)<((cM a (aF a s e)).length:Int))))) (Zt a s e k) ?_;refine cD (fun hc4=>?_) fun hc4=>?_
 ·skip;have lN:=of_decide_eq_true hc4;refine aR (aB (bf (aB (aD 6 [(80,.b (!(decide ((((cM a (aF a s e)).getD k dE).sec)=s∧(((cM a (aF a s e)).getD k dE).en)=e)))),(79,.agg [.i s,.i e]),(78,.agg (Zx a s e k)),(77,.rp (((Zx a s e k):List AV)++((enc bH (cM a (aF a s e))).drop ((k+1)*2)))),(76,.i (k:Int)),(75,.q bH (cM a (aF a s e)))] mixed ?_ ?_))))
  ·refine ⟨?_,?_,?_,?_,?_,?_,trivial⟩
   ·exact aM
   ·exact aM
   ·exact (d4 dE dF dT)
   ·exact dW 78 fun st ap hE=>jO (cells':=(Zx a s e k)) rfl rfl rfl im dT (hE 77 rfl) rfl rfl rfl (by rw [ap];rfl)
   ·exact ed [.i s,.i e] im dT
   exact dW 80 fun st ap hE=>G8 (r:=(!(decide ((((cM a (aF a s e)).getD k dE).sec)=s∧(((cM a (aF a s e)).getD k dE).en)=e)))) rfl rfl rfl (hE 78 rfl) (hE 79 rfl) IZ gm gm Y0 Y0 (.inr ⟨rfl,rfl⟩) (by rw [ap];rfl)
  refine ak (cD (fun f7=>?_) fun f7=>?_)
  ·skip;refine bm (mS ?_);refine mO ?_;refine mV ?_;refine oG (qX dE dF dT ?_);refine oG (ZI (Zx a s e k) im dT ?_);refine oG (Y8 rfl rfl rfl dF rL (by decide) (by decide) rfl rfl ?_);refine oG (hS (f:=bH) (l:=iZ a (aF a s e) s e k) 58 (Zw a s e k) rfl rfl rfl rfl dF nL rfl (by decide) rfl rfl rfl rfl rfl rfl (fun _=>rfl) rfl rfl oo oo rfl ?_);refine mS ?_;refine ak (rT (upd (upd (upd (upd (upd none_ 3 (.pt 3 0)) 4 vN) 8 (.sl 58 0 (((iZ a (aF a s e) s e k)++[(Zw a s e k)]).length))) 10 (CK a s e)) 11 (.i (k:Int))) (ah (ah (Zt a s e k) 1 .dead) 58 (.live ⟨(enc bH ((iZ a (aF a s e) s e k)++[(Zw a s e k)])),124,2⟩)) ?_);refine bm (mV ?_);refine oG (qB (.int .i64 ((k+1:Nat):Int)) (addN om) ?_);refine mV ?_;refine ak ?_;show _∧_;have hs_:iZ a (aF a s e) s e (k+1)=iZ a (aF a s e) s e k++[(cM a (aF a s e)).getD k dE]:=ON dE om f7;refine ⟨by omega,trivial,?_⟩;exact iL [(58,1),(3,3)] [((58,1),.live _),((3,3),.live _)] ⟨aP rfl (by exact congrArg (fun l_=>ay.mk (enc bH l_) 124 2) hs_),aP rfl rfl,trivial⟩ (he:=(sS rfl (sS rfl (sM (by exact congrArg (AV.sl 1 0) (congrArg List.length hs_.symm)) (sS rfl (sM rfl bQ))))))
  refine aR (bm (mV ?_));refine oG (qB (.int .i64 ((k+1:Nat):Int)) (addN om) ?_);refine mV ?_;refine ak ?_;show _∧_;have hs_:iZ a (aF a s e) s e (k+1)=iZ a (aF a s e) s e k:=Ob dE om f7;refine ⟨by omega,trivial,?_⟩;exact iL [(1,1),(3,3)] [((1,1),.live _),((3,3),.live _)] ⟨aP rfl (by exact congrArg (fun l_=>ay.mk (enc bH l_) 124 2) hs_),aP rfl rfl,trivial⟩ (he:=(sS rfl (sS rfl (sM (by exact congrArg (AV.sl 1 0) (congrArg List.length hs_.symm)) (sS rfl (sM rfl bQ))))))
 have lP:=of_decide_eq_false hc4;refine cu (aB (aj (mS ?_)));refine oG (d_ rfl rfl rfl rfl dF (fK rfl) ?_);refine bB ?_;refine ak (cD (fun hc6=>?_) fun hc6=>?_)
 ·skip;have nS:=(bne_iff_ne).1 hc6;have hlen:¬(lH a (aF a s e) s e).length=1:=by rw [←zF (k:=k) om];simp at hc6;omega
  refine aj (mV ?_);refine rU (upd (upd none_ 4 vN) 8 (.sl 1 0 ((iZ a (aF a s e) s e k).length))) (Zt a s e k) ?_;refine cy _ (d8 rfl (fun _ h=>h) (dy 4 (.ro 0 []) .nil d9)) ?_;exact aV (bq (av:=.ro 0 []) rfl rfl (by rw [FT hn hi hlen];rfl))
 have oU:=(bne_eq_false_iff_eq).1 hc6;have hlen:(lH a (aF a s e) s e).length=1:=by rw [←zF (k:=k) om];simp at hc6;omega
 refine aR (aj (mS ?_));refine mS ?_;refine rU (upd none_ 4 (.sl 1 0 ((iZ a (aF a s e) s e k).length))) (Zt a s e k) ?_;refine cy _ (d8 rfl (fun _ h=>h) (dy 4 (.q bH (iZ a (aF a s e) s e k)) (fv (id:=1) (n:=(iZ a (aF a s e) s e k).length) (o:=⟨(enc bH (iZ a (aF a s e) s e k)),124,2⟩) rfl (YW (fun _=>rfl) (by first|rfl|(simp;done)))) d9)) ?_;exact aV (bq (av:=.ro ((iZ a (aF a s e) s e k).length) (enc bH (iZ a (aF a s e) s e k))) rfl rfl (by rw [F4 hn hi hlen,zF om]))
abbrev KM (a:List ax) (c:List aH) (d:List Int) (s e:Int) (k:Nat):List AV:=[.i (((bo a c ((bA a c d s e k).s) ((bA a c d s e k).e)).getD (fF d (bo a c (bA a c d s e k).s (bA a c d s e k).e).length k) dE).en)]
abbrev nh (a:List ax) (c:List aH) (d:List Int) (s e:Int) (k:Nat):List AV:=(enc eI ((bA a c d s e k).out))
abbrev CM (d:List Int) (g:Int):Nat→AV:=(upd (upd (upd none_ 3 (.q aC d)) 4 (.i g)) 5 (.pt 3 0))
abbrev xB (a:List ax) (c:List aH):List AV:=[.one,.q aI a,.one,.q aE c,.one,.one,.one,.one,.one,.one]
abbrev r7 (a:List ax) (c:List aH) (d:List Int) (s e:Int) (k:Nat):List AV:=(enc bH (bo a c ((bA a c d s e k).s) ((bA a c d s e k).e)))
abbrev CN (d:List Int) (g:Int) (a:List ax) (c:List aH) (s e:Int) (k:Nat):Nat→AV:=(upd (upd (upd (upd (CM d g) 10 vN) 11 (.sl 1 0 ((bA a c d s e k).out.length))) 12 (.pt 2 0)) 13 (.i (k:Int)))
abbrev KN (a:List ax) (c:List aH) (d:List Int) (s e:Int) (k:Nat):List AV:=[.i (((bo a c ((bA a c d s e k).s) ((bA a c d s e k).e)).getD (fF d (bo a c (bA a c d s e k).s (bA a c d s e k).e).length k) dE).sec),.i (1-(((bo a c ((bA a c d s e k).s) ((bA a c d s e k).e)).getD (fF d (bo a c (bA a c d s e k).s (bA a c d s e k).e).length k) dE).en))]
abbrev CO (a:List ax) (c:List aH) (d:List Int) (s e:Int) (k:Nat):AV:=(.q bH (bo a c ((bA a c d s e k).s) ((bA a c d s e k).e)))
abbrev xC (a:List ax) (c:List aH) (d:List Int) (s e:Int) (k:Nat):List AV:=[.i (((bo a c ((bA a c d s e k).s) ((bA a c d s e k).e)).getD (fF d (bo a c (bA a c d s e k).s (bA a c d s e k).e).length k) dE).sec),.i (((bo a c ((bA a c d s e k).s) ((bA a c d s e k).e)).getD (fF d (bo a c (bA a c d s e k).s (bA a c d s e k).e).length k) dE).en)]
abbrev uf (d:List Int) (g:Int) (a:List ax) (c:List aH) (s e:Int) (k:Nat):Nat→AV:=(upd (CN d g a c s e k) 14 (CO a c d s e k))
abbrev n0 (a:List ax) (c:List aH) (d:List Int) (s e:Int) (k:Nat):Nat→aK:=(ah (ah (ah aG 1 (.live ⟨(nh a c d s e k),3,1⟩)) 2 (.live ⟨[.i ((bA a c d s e k).s),.i ((bA a c d s e k).e)],124,1⟩)) 3 (.live ⟨(xB a c),35,1⟩))
abbrev qt (a:List ax) (c:List aH) (d:List Int) (s e:Int) (k:Nat):AV:=(.rp (((xC a c d s e k):List AV)++((r7 a c d s e k).drop (((fF d (bo a c (bA a c d s e k).s (bA a c d s e k).e).length k)+1)*2))))
theorem PW (a:List ax) (c:List aH) (s e:Int) (d:List Int) (g:Int) (hs:a.length≤65536) (hp:c.length≤65536) (ht:d.length≤65536) (hm:g≤65536) (hu:∀x,x∈d→0≤x∧x≤255):Fn Tryz.prog 24 [.agg [.one,.q aI a,.one,.q aE c,.one,.one,.one,.one,.one,.one],.v (.int .i64 s),.v (.int .i64 e),.q aC d,.v (.int .i64 g)] (.q eI (nM a c s e d g)):=by
 refine cf (N:=75) Tryz.func24 rfl rfl (b_ rfl) (by simp) (fun w0 X bJ=>?_);refine aj (oG (qW 51 ?_));refine mV ?_;refine ak (aj (mV ?_));refine oG (oA 52 rfl rfl rfl cG mF (by decide) (by decide) rfl rfl rfl rfl ?_);refine mS ?_;refine rU (upd (upd (upd (upd (upd (upd (upd none_ 1 (.i s)) 2 (.i e)) 3 (.q aC d)) 4 (.i g)) 5 (.pt 51 0)) 10 vN) 11 (.sl 52 0 1)) (ah (ah aG 51 (.live ⟨(xB a c),35,1⟩)) 52 (.live ⟨[.i s],3,1⟩)) ?_;refine aj (mV ?_);refine mV ?_;refine oG (qD lj ?_);refine oG (fW 53 rfl rfl rfl rfl wA rfl ?_);refine oG (qS dT ?_);refine rU (upd (upd (upd (upd (upd (upd none_ 3 (.q aC d)) 4 (.i g)) 5 (.pt 51 0)) 10 vN) 11 (.sl 52 0 1)) 12 (.pt 53 0)) (ah (ah (ah (ah aG 51 (.live ⟨(xB a c),35,1⟩)) 52 (.live ⟨[.i s],3,1⟩)) 53 (.live ⟨[.i 0,.i 0],124,1⟩)) 53 (.live ⟨[.i s,.i e],124,1⟩)) ?_;refine aB (aj (mV ?_));refine ak (bf (cF (fun k=>⟨(CN d g a c s e k),(n0 a c d s e k)⟩) (fun k=>jD a c d s e g (g.toNat-k) k=nM a c s e d g) (g.toNat) ?_ rfl (fun k dq hinv=>?_)))
 ·skip;exact iL [(52,1),(53,2),(51,3)] [((52,1),.live _),((53,2),.live _),((51,3),.live _)] ⟨aP rfl rfl,aP rfl rfl,aP rfl rfl,trivial⟩
 have hwl:=Ar a c d s e k;have hxl:=zw a c (bA a c d s e k).s (bA a c d s e k).e;refine aB (aj (mS ?_));refine oG (d_ rfl rfl rfl rfl cG (fK rfl) ?_);refine mV ?_;refine bB ?_;refine rU (upd (CN d g a c s e k) 24 (.b (decide (((bA a c d s e k).out.length:Int)<g)))) (n0 a c d s e k) ?_;refine cD (fun hc0=>?_) fun hc0=>?_
 ·skip;have hf1:=of_decide_eq_true hc0;have hlt:((k:Int)+1<g):=by omega
  refine aR (aB (bf (aj (oG (ZI (xB a c) du cC ?_)))));refine oG (ZI [.i ((bA a c d s e k).s),.i ((bA a c d s e k).e)] im dT ?_);refine oG (qJ (F2 a c ((bA a c d s e k).s) ((bA a c d s e k).e) oo oo) JN ?_);refine mO ?_;refine rU (uf d g a c s e k) (n0 a c d s e k) ?_;refine aB (aj (mO ?_));refine oG (qN dF ?_);refine bB ?_;refine ak (cD (fun hc1=>?_) fun hc1=>?_)
  ·skip;have hf2:=(beq_iff_eq).1 hc1;have hx0:(bo a c (bA a c d s e k).s (bA a c d s e k).e).length=0:=by simpa using hc1
   refine aj (mS ?_);refine mS ?_;refine rU (upd (upd (upd (upd (upd (CM d g) 10 (.sl 1 0 ((bA a c d s e k).out.length))) 11 (.sl 1 0 ((bA a c d s e k).out.length))) 12 (.pt 2 0)) 13 (.i (k:Int))) 14 (CO a c d s e k)) (n0 a c d s e k) ?_;refine cy _ (d8 rfl (fun _ h=>h) (dy 10 (.ro ((bA a c d s e k).out.length) (nh a c d s e k)) (fv (id:=1) (n:=(bA a c d s e k).out.length) (o:=⟨(nh a c d s e k),3,1⟩) rfl (YW (fun _=>rfl) (by first|rfl|(simp;done)))) d9)) ?_;exact aV (bq (av:=.ro ((bA a c d s e k).out.length) (nh a c d s e k)) rfl rfl (by rw [←hinv,zG (Oc hx0)]))
  have hf3:=(beq_eq_false_iff_ne).1 hc1;have hx0:¬(bo a c (bA a c d s e k).s (bA a c d s e k).e).length=0:=by simpa using hc1
  have hlk:fF d (bo a c (bA a c d s e k).s (bA a c d s e k).e).length k<(bo a c (bA a c d s e k).s (bA a c d s e k).e).length:=As om;have hye:=Gt (c8 dE hlk);refine aR (aj (mV ?_));refine rU (upd (uf d g a c s e k) 15 (.i 0)) (n0 a c d s e k) ?_;refine aB (aj (mV ?_));refine mO ?_;refine oG (qN cq ?_);refine bB ?_;refine rU (upd (upd (uf d g a c s e k) 15 (.i 0)) 37 (.b (decide ((k:Int)<(d.length:Int))))) (n0 a c d s e k) ?_;refine jl ⟨(upd (uf d g a c s e k) 15 (.i ((fF d (bo a c (bA a c d s e k).s (bA a c d s e k).e).length k:Nat):Int))),(n0 a c d s e k)⟩ (fun s h=>h) ?_ ?_
  ·skip;refine cD (fun hc2=>?_) fun hc2=>?_
   ·skip;have eb:=of_decide_eq_true hc2;have htk:k<d.length:=by simpa using hc2
    have hu0:=hu _ (c8 0 htk);refine bm (mO ?_);refine mV ?_;refine oG (qX (0:Int) cq cR ?_);refine oV dB ?_;refine oG (gR rfl rfl rfl iU gm rfl (IntWalk.i64_in _ om) ?_);refine mO ?_;refine oG (qN dF ?_);refine oG (ez (u:=(.int .i64 ((d.getD k 0) % ((bo a c ((bA a c d s e k).s) ((bA a c d s e k).e)).length:Int)))) rfl rfl rfl rfl rfl (by show _≠_;omega) (f5 om) ?_);refine mV ?_;refine ak ?_;show ck _ _ _;exact iL [(1,1),(2,2),(3,3)] [((1,1),.live _),((2,2),.live _),((3,3),.live _)] ⟨aP rfl rfl,aP rfl rfl,aP rfl rfl,trivial⟩ (he:=(sS (by exact congrArg (fun n_:Int=>AV.v (.int .i64 n_)) (by first|exact HL htk hu0.1|exact G9 htk)) (sS rfl (sS rfl (sM rfl (sM rfl (sS rfl (sM rfl (sS rfl (sS rfl bQ))))))))))
   have g0:=of_decide_eq_false hc2;have htk:¬k<d.length:=by simpa using hc2
   refine aR ?_;show ck _ _ _;exact iL [(1,1),(2,2),(3,3)] [((1,1),.live _),((2,2),.live _),((3,3),.live _)] ⟨aP rfl rfl,aP rfl rfl,aP rfl rfl,trivial⟩ (he:=(sS (by exact congrArg (fun n_:Int=>AV.v (.int .i64 n_)) (by first|exact HL htk hu0.1|exact G9 htk)) (sS rfl (sS rfl (sM rfl (sM rfl (sS rfl (sM rfl (sS rfl (sS rfl bQ))))))))))
  refine aB (aj (mS ?_));refine mO ?_;refine mV ?_;refine oG (qX dE dF dT ?_);refine oG (qF (qt a c d s e k) (qt a c d s e k) ZL bC ?_);refine oV Y0 ?_;refine oG (eA (Ap ((bA a c d s e k).out) (((bo a c ((bA a c d s e k).s) ((bA a c d s e k).e)).getD (fF d (bo a c (bA a c d s e k).s (bA a c d s e k).e).length k) dE).sec) oo) rfl rfl rfl rfl rfl B0 lT ?_);refine rU (upd (upd (uf d g a c s e k) 15 (.i ((fF d (bo a c (bA a c d s e k).s (bA a c d s e k).e).length k:Nat):Int))) 52 (.b (decide ((((bo a c ((bA a c d s e k).s) ((bA a c d s e k).e)).getD (fF d (bo a c (bA a c d s e k).s (bA a c d s e k).e).length k) dE).sec)∈((bA a c d s e k).out))))) (n0 a c d s e k) ?_;refine cD (fun hc3=>?_) fun hc3=>?_
  ·skip;have hse:(mj a c d k (bA a c d s e k)).sec∈(bA a c d s e k).out:=of_decide_eq_true hc3;refine aj (mS ?_);refine mS ?_;refine ak (cy _ (d8 rfl (fun _ h=>h) (dy 10 (.ro ((bA a c d s e k).out.length) (nh a c d s e k)) (fv (id:=1) (n:=(bA a c d s e k).out.length) (o:=⟨(nh a c d s e k),3,1⟩) rfl (YW (fun _=>rfl) (by first|rfl|(simp;done)))) d9)) ?_);exact aV (bq (av:=.ro ((bA a c d s e k).out.length) (nh a c d s e k)) rfl rfl (by rw [←hinv,zG (Od hse)]))
  have hns:¬(mj a c d k (bA a c d s e k)).sec∈(bA a c d s e k).out:=of_decide_eq_false hc3;refine aR (aj (mS ?_));refine mO ?_;refine mV ?_;refine oG (qX dE dF dT ?_);refine oG (qF (qt a c d s e k) (qt a c d s e k) ZL bC ?_);refine oV Y0 ?_;refine oG (Y8 rfl rfl rfl cG mF (by decide) (by decide) rfl rfl ?_);refine oG (hS (f:=eI) (l:=(bA a c d s e k).out) 54 (((bo a c ((bA a c d s e k).s) ((bA a c d s e k).e)).getD (fF d (bo a c (bA a c d s e k).s (bA a c d s e k).e).length k) dE).sec:Int) rfl rfl rfl rfl cG ud rfl (by decide) rfl rfl rfl rfl rfl rfl (fun _=>rfl) rfl rfl oo oo rfl ?_);refine mS ?_;refine rU (upd (upd (upd (upd (upd (upd (CM d g) 10 vN) 11 (.sl 54 0 ((((bA a c d s e k).out)++[(((bo a c ((bA a c d s e k).s) ((bA a c d s e k).e)).getD (fF d (bo a c (bA a c d s e k).s (bA a c d s e k).e).length k) dE).sec:Int)]).length))) 12 (.pt 2 0)) 13 (.i (k:Int))) 14 (CO a c d s e k)) 15 (.i ((fF d (bo a c (bA a c d s e k).s (bA a c d s e k).e).length k:Nat):Int))) (ah (ah (n0 a c d s e k) 1 .dead) 54 (.live ⟨(enc eI (((bA a c d s e k).out)++[(((bo a c ((bA a c d s e k).s) ((bA a c d s e k).e)).getD (fF d (bo a c (bA a c d s e k).s (bA a c d s e k).e).length k) dE).sec:Int)])),3,1⟩)) ?_;refine aD 12 [(73,.agg (KN a c d s e k)),(72,.i (1-(((bo a c ((bA a c d s e k).s) ((bA a c d s e k).e)).getD (fF d (bo a c (bA a c d s e k).s (bA a c d s e k).e).length k) dE).en))),(71,.i (((bo a c ((bA a c d s e k).s) ((bA a c d s e k).e)).getD (fF d (bo a c (bA a c d s e k).s (bA a c d s e k).e).length k) dE).en)),(70,.rp (((KM a c d s e k):List AV)++((r7 a c d s e k).drop (((fF d (bo a c (bA a c d s e k).s (bA a c d s e k).e).length k)+1)*2)))),(69,.rp (((xC a c d s e k):List AV)++((r7 a c d s e k).drop (((fF d (bo a c (bA a c d s e k).s (bA a c d s e k).e).length k)+1)*2)))),(68,.i ((fF d (bo a c (bA a c d s e k).s (bA a c d s e k).e).length k:Nat):Int)),(67,.q bH (bo a c ((bA a c d s e k).s) ((bA a c d s e k).e))),(66,.i (((bo a c ((bA a c d s e k).s) ((bA a c d s e k).e)).getD (fF d (bo a c (bA a c d s e k).s (bA a c d s e k).e).length k) dE).sec)),(65,.rp (((xC a c d s e k):List AV)++((r7 a c d s e k).drop (((fF d (bo a c (bA a c d s e k).s (bA a c d s e k).e).length k)+1)*2)))),(64,.rp (((xC a c d s e k):List AV)++((r7 a c d s e k).drop (((fF d (bo a c (bA a c d s e k).s (bA a c d s e k).e).length k)+1)*2)))),(63,.i ((fF d (bo a c (bA a c d s e k).s (bA a c d s e k).e).length k:Nat):Int)),(62,.q bH (bo a c ((bA a c d s e k).s) ((bA a c d s e k).e)))] mixed ?_ ?_
  ·refine ⟨?_,?_,?_,?_,?_,?_,?_,?_,?_,?_,?_,?_,trivial⟩
   ·exact aM
   ·exact aM
   ·exact (d4 dE dF dT)
   ·exact sF (qt a c d s e k) (qt a c d s e k) ZL bC
   ·exact (cN Y0)
   ·exact aM
   ·exact aM
   ·exact (d4 dE dF dT)
   ·exact sF (qt a c d s e k) (.rp (((KM a c d s e k):List AV)++((r7 a c d s e k).drop (((fF d (bo a c (bA a c d s e k).s (bA a c d s e k).e).length k)+1)*2)))) mf bC
   ·exact (cN Y0)
   ·exact sB (.int .i64 (1-(((bo a c ((bA a c d s e k).s) ((bA a c d s e k).e)).getD (fF d (bo a c (bA a c d s e k).s (bA a c d s e k).e).length k) dE).en))) (kM om)
   exact dW 73 fun st ap hE=>kb rfl rfl rfl lj (by simp only [eY,List.map,aU,hE 66 rfl,hE 72 rfl];rfl) (by rw [ap];rfl)
  refine oG (qS dT ?_);refine ak (bm (mV ?_));refine oG (qB (.int .i64 ((k+1:Nat):Int)) (addN om) ?_);refine mV ?_;refine ak ?_;show _∧_;refine ⟨by omega,(PX (PY om hx0 hns) om hinv),?_⟩;exact iL [(54,1),(2,2),(3,3)] [((54,1),.live _),((2,2),.live _),((3,3),.live _)] ⟨aP rfl (by exact congrArg (fun l_=>ay.mk (enc eI l_) 3 1) rfl),aP (o:=⟨(KN a c d s e k),124,1⟩) rfl rfl,aP rfl rfl,trivial⟩
 have fB:=of_decide_eq_false hc0;refine cu (aj (mS ?_));refine mS ?_;refine ak (cy _ (d8 rfl (fun _ h=>h) (dy 10 (.ro ((bA a c d s e k).out.length) (nh a c d s e k)) (fv (id:=1) (n:=(bA a c d s e k).out.length) (o:=⟨(nh a c d s e k),3,1⟩) rfl (YW (fun _=>rfl) (by first|rfl|(simp;done)))) d9)) ?_);exact aV (bq (av:=.ro ((bA a c d s e k).out.length) (nh a c d s e k)) rfl rfl (by rw [←hinv,zG (OO om)]))
theorem JQ:YV Tryz.prog 22=some false:=by kernel_rfl
theorem Vz:YV Tryz.prog 30=some false:=by kernel_rfl
theorem fQ:YV Tryz.prog 32=some false:=by kernel_rfl
theorem jE:YV Tryz.prog 57=some false:=by kernel_rfl
theorem It:dD Tryz.prog 25 0=some (5,0):=by kernel_rfl
theorem SA:dD Tryz.prog 25 1=some (5,1):=by kernel_rfl
theorem SB:dD Tryz.prog 25 2=some (5,2):=by kernel_rfl
theorem SC:dD Tryz.prog 25 3=some (22,3):=by kernel_rfl
theorem SD:dD Tryz.prog 25 4=some (22,4):=by kernel_rfl
theorem SE:dD Tryz.prog 25 5=some (5,5):=by kernel_rfl
theorem SF:dD Tryz.prog 25 6=some (5,6):=by kernel_rfl
theorem Iu:dD Tryz.prog 25 7=some (5,7):=by kernel_rfl
theorem tb:dD Tryz.prog 35 0=some (30,0):=by kernel_rfl
theorem lI:dD Tryz.prog 35 2=some (32,2):=by kernel_rfl
theorem SG:dD Tryz.prog 35 5=some (3,5):=by kernel_rfl
theorem SH:dD Tryz.prog 35 6=some (2,6):=by kernel_rfl
theorem SI:dD Tryz.prog 35 7=some (2,7):=by kernel_rfl
theorem A0:dD Tryz.prog 35 8=some (2,8):=by kernel_rfl
theorem SJ:dD Tryz.prog 35 9=some (2,9):=by kernel_rfl
theorem TS:(Tryz.prog.info? 113).map (fun i=>(i.zero,i.size,i.bytes))=some (some (.complex .f64 0 0),1,16):=by kernel_rfl
theorem TT:(Tryz.prog.info? 116).map (fun i=>(i.zero,i.size,i.bytes))=some (some (.agg #[(.int .i64 0),(.int .i64 0)]),2,16):=by kernel_rfl
theorem TU:(Tryz.prog.info? 118).map (fun i=>(i.zero,i.size,i.bytes))=some (some (.agg #[(.int .i64 0),(.int .i64 0),(.int .i64 0)]),3,24):=by kernel_rfl
theorem B5:(Tryz.prog.info? 57).map (fun i=>(i.zero,i.size,i.bytes))=some (some (.slice none 0 0),1,24):=by kernel_rfl
theorem wB:(Tryz.prog.info? 113).map (fun i=>(i.zero,i.size))=some (some (.complex .f64 0 0),1):=by kernel_rfl
theorem wC:(Tryz.prog.info? 116).map (fun i=>(i.zero,i.size))=some (some (.agg #[(.int .i64 0),(.int .i64 0)]),2):=by kernel_rfl
theorem TV:(Tryz.prog.info? 118).map (fun i=>(i.zero,i.size))=some (some (.agg #[(.int .i64 0),(.int .i64 0),(.int .i64 0)]),3):=by kernel_rfl
theorem B6:(Tryz.prog.info? 54).map (fun i=>(i.zero,i.size))=some (some (.agg #[(.int .i64 0),(.int .i64 0),(.int .i64 0),(.int .i64 0)]),4):=by kernel_rfl
theorem wT:(Tryz.prog.info? 57).map (fun i=>(i.zero,i.size))=some (some (.slice none 0 0),1):=by kernel_rfl
theorem i5:placesOf Tryz.prog 116=some ((.agg #[(.int .i64 0),(.int .i64 0)]),fun i=>some (i*1,1)):=by kernel_rfl
theorem I0:placesOf Tryz.prog 118=some ((.agg #[(.int .i64 0),(.int .i64 0),(.int .i64 0)]),fun i=>([(0,1),(1,1),(2,1)]:List (Nat×Nat)).toArray[i]?):=by kernel_rfl
theorem wU:placesOf Tryz.prog 54=some ((.agg #[(.int .i64 0),(.int .i64 0),(.int .i64 0),(.int .i64 0)]),fun i=>([(0,1),(1,1),(2,1),(3,1)]:List (Nat×Nat)).toArray[i]?):=by kernel_rfl
theorem I1:(Tryz.prog.info? 116).map (·.size)=some 2:=by kernel_rfl
theorem gL:(Tryz.prog.info? 2).map (·.size)=some 1:=by kernel_rfl
theorem JR:(Tryz.prog.info? 22).map (·.size)=some 1:=by kernel_rfl
theorem nU:(Tryz.prog.info? 30).map (·.size)=some 1:=by kernel_rfl
theorem eG:(Tryz.prog.info? 32).map (·.size)=some 1:=by kernel_rfl
theorem i9:(Tryz.prog.info? 57).map (·.size)=some 1:=by kernel_rfl
theorem Bw:Tryz.prog.underlying 114=some (.float .f64):=by kernel_rfl
theorem m0:Tryz.prog.underlying 115=some (.slice 116):=by kernel_rfl
theorem By:Tryz.prog.underlying 116=some (.array 2 3):=by kernel_rfl
theorem ug:Tryz.prog.underlying 2=some (.int .i64):=by kernel_rfl
theorem JS:Tryz.prog.underlying 22=some (.int .u16):=by kernel_rfl
theorem tR:Tryz.prog.underlying 30=some (.slice 113):=by kernel_rfl
theorem e4:Tryz.prog.underlying 32=some (.slice 57):=by kernel_rfl
theorem rS:(Tryz.prog.info? 35).bind (·.zero)=some (.agg #[(.slice none 0 0),(.slice none 0 0),(.slice none 0 0),(.slice none 0 0),(.slice none 0 0),(.int .i64 0),(.int .i64 0),(.int .i64 0),(.int .i64 0),(.int .i64 0)]):=by kernel_rfl
theorem wV:∀n∈units,(ja .mul ((4611686018427387904,0):Nat×Nat) ((cb (n),0):Nat×Nat)).isSome=true:=by decide+kernel
theorem VA:∀n∈units,(ja .add (cx .mul ((4611686018427387904,0):Nat×Nat) ((cb (n),0):Nat×Nat)) ((0,cb (n)):Nat×Nat)).isSome=true:=by decide+kernel
theorem VB:∀n∈units,(ja .sub (cx .mul ((4611686018427387904,0):Nat×Nat) ((cb (n),0):Nat×Nat)) ((0,cb (n)):Nat×Nat)).isSome=true:=by decide+kernel
theorem wW:∀n∈units,(ja .mul ((4613937818241073152,0):Nat×Nat) ((cb (n),0):Nat×Nat)).isSome=true:=by decide+kernel
theorem JU:∀n∈units,(ja .quo ((0,cb (n)):Nat×Nat) ((4611686018427387904,0):Nat×Nat)).isSome=true:=by decide+kernel
theorem VC:∀n∈units,(ja .add (cx .mul ((4613937818241073152,0):Nat×Nat) ((cb (n),0):Nat×Nat)) (cx .quo ((0,cb (n)):Nat×Nat) ((4611686018427387904,0):Nat×Nat))).isSome=true:=by decide+kernel
theorem VD:∀n∈units,(ja .sub (cx .mul ((4613937818241073152,0):Nat×Nat) ((cb (n),0):Nat×Nat)) (cx .quo ((0,cb (n)):Nat×Nat) ((4611686018427387904,0):Nat×Nat))).isSome=true:=by decide+kernel
theorem B7:∀n∈units,(ja .mul ((4616189618054758400,0):Nat×Nat) ((cb (n),0):Nat×Nat)).isSome=true:=by decide+kernel
theorem VE:∀n∈units,(ja .mul ((4617315517961601024,0):Nat×Nat) ((cb (n),0):Nat×Nat)).isSome=true:=by decide+kernel
theorem VF:∀n∈units,(ja .mul ((4618441417868443648,0):Nat×Nat) ((cb (n),0):Nat×Nat)).isSome=true:=by decide+kernel
theorem TW:∀n∈units,(ja .add (cx .mul ((4613937818241073152,0):Nat×Nat) ((cb (n),0):Nat×Nat)) ((0,cb (n)):Nat×Nat)).isSome=true:=by decide+kernel
theorem TX:∀n∈units,(ja .sub (cx .mul ((4613937818241073152,0):Nat×Nat) ((cb (n),0):Nat×Nat)) ((0,cb (n)):Nat×Nat)).isSome=true:=by decide+kernel
theorem TY:∀n∈units,(ja .add (cx .mul ((4616189618054758400,0):Nat×Nat) ((cb (n),0):Nat×Nat)) ((0,cb (n)):Nat×Nat)).isSome=true:=by decide+kernel
theorem T0:∀n∈units,(ja .sub (cx .mul ((4616189618054758400,0):Nat×Nat) ((cb (n),0):Nat×Nat)) ((0,cb (n)):Nat×Nat)).isSome=true:=by decide+kernel
end Go.Lo