/- Walks of Go functions in the logic of values: what the law reaches. -/
import Derived.Test.YtdeajfldegcdaaaGreatPFnPl2

set_option linter.unusedVariables false
set_option linter.unusedSimpArgs false
set_option maxRecDepth 10000
set_option maxHeartbeats 16000000
namespace Go.Lo
open Go.Proofs
abbrev Dr (l:List Int) (k:Nat):Nat→AV:=(upd (upd (upd none_ 0 (.q eI l)) 2 vN) 3 (.sl 1 0 ((a8 l k).length)))
abbrev xN (l:List Int) (k:Nat):Nat→aK:=(ah aG 1 (.live ⟨(enc eI (a8 l k)),3,1⟩))
theorem P8 (l:List Int) (hl:l.length≤65536):Fn Tryz.prog 18 [.q eI l] (.q eI (kd l)):=by
 refine cf (N:=54) Tryz.func18 rfl rfl (b_ rfl) (by simp) (fun w0 X bJ=>?_);refine aj (mV ?_);refine ak (aj (mV ?_));refine ak (bf (cF (fun k=>⟨(Dr l k),(xN l k)⟩) (fun k=>(a8 l k).length=k∧k≤l.length) (l.length+1) ?_ ⟨rfl,Nat.zero_le _⟩ (fun k dq hinv=>?_)))
 ·skip;refine (iz 3 51 3 1 rfl rfl).trans ?_;exact iI 51 1 (o:=⟨[],3,1⟩) rfl
 have hk1:=hinv.1;have hk2:=hinv.2;refine bf (aj (mV ?_));refine ak (aB (aj (mV ?_)));refine ak (bf (cF (fun i=>⟨(upd (upd (Dr l k) 4 (.i (cQ l (a8 l k) i))) 5 (.i (i:Int))),(xN l k)⟩) (fun i=>True) (l.length) ?_ trivial (fun i tP hinv=>?_)))
 ·skip;exact iI 1 1 rfl
 have hix:(((a8 l k).length:Int)-1).toNat=(a8 l k).length-1:=by omega
 have hbr:=sP l (a8 l k) i;refine aB (aj (mV ?_));refine mO ?_;refine oG (qN cG ?_);refine bB ?_;refine rU (upd (upd (upd (Dr l k) 4 (.i (cQ l (a8 l k) i))) 5 (.i (i:Int))) 9 (.b (decide ((i:Int)<(l.length:Int))))) (xN l k) ?_;refine cD (fun hc0=>?_) fun hc0=>?_
 ·skip;have hf1:=of_decide_eq_true hc0;refine aR (aB (bf (aB ((Bool.eq_false_or_eq_true (((a8 l k).length:Int)==0)).elim (fun hg2=>?_) (fun hg2=>?_)))))
  ·skip;have hf3:=(beq_iff_eq).1 hg2;refine (Bool.eq_false_or_eq_true (decide ((cQ l (a8 l k) i)<0))).elim (fun hg4=>?_) (fun hg4=>?_)
   ·skip;have g0:=of_decide_eq_true hg4;refine aD 31 [(42,.b true),(41,.b true),(40,.v undef),(39,.v undef),(38,.v undef),(37,.v undef),(36,.v undef),(35,.v undef),(34,.v undef),(33,.v undef),(32,.v undef),(31,.b (decide ((cQ l (a8 l k) i)<0))),(30,.b (decide ((cQ l (a8 l k) i)<0))),(29,.i (cQ l (a8 l k) i)),(28,.b true),(27,.b true),(26,.v undef),(25,.v undef),(24,.v undef),(23,.v undef),(22,.v undef),(21,.v undef),(20,.v undef),(19,.v undef),(18,.v undef),(17,.v undef),(16,.v undef),(15,.b (((a8 l k).length:Int)==0)),(14,.b (((a8 l k).length:Int)==0)),(13,.i ((a8 l k).length:Int)),(12,.sl 1 0 ((a8 l k).length))] mixed ?_ ?_
    ·iterate 31 (refine ⟨?_,?_⟩;rotate_left)
     trivial
     ·exact aM
     ·exact dW 13 fun st ap hE=>d_ rfl rfl rfl rfl cG (fK (hE 12 rfl)) (by rw [ap];rfl)
     ·exact sB (.bool (((a8 l k).length:Int)==0)) rfl
     ·exact aM
     ·exact dr hg2
     ·exact dr hg2
     ·exact dr hg2
     ·exact dr hg2
     ·exact dr hg2
     ·exact dr hg2
     ·exact dr hg2
     ·exact dr hg2
     ·exact dr hg2
     ·exact dr hg2
     ·exact dr hg2
     ·exact mH (((a8 l k).length:Int)==0) (.b true) hg2
     ·exact aM
     ·exact dM rfl aM
     ·exact dM rfl (sB (.bool (decide ((cQ l (a8 l k) i)<0))) rfl)
     ·exact dM rfl aM
     ·exact dr hg4
     ·exact dr hg4
     ·exact dr hg4
     ·exact dr hg4
     ·exact dr hg4
     ·exact dr hg4
     ·exact dr hg4
     ·exact dr hg4
     ·exact dr hg4
     ·exact dM rfl (mH (decide ((cQ l (a8 l k) i)<0)) (.b true) hg4)
     exact dW 42 fun st ap hE=>fJ (b:=true) (av:=.b true) rfl rfl rfl (hE 28 rfl) (hE 41 rfl) (by rw [ap];rfl)
    refine ak (eh true rfl rfl (fun _=>?_) (fun h=>by cases h));refine bm (mV ?_);refine mV ?_;refine ak (bm (mV ?_));refine oG (qB (.int .i64 ((i+1:Nat):Int)) (addN om) ?_);refine mV ?_;refine ak ?_;show _∧_;refine ⟨by omega,trivial,?_⟩;exact iI 1 1 rfl (he:=(sS rfl (sS (by exact congrArg (fun n_:Int=>AV.v (.int .i64 n_)) (by first|exact (oC (by simp only [iQ,Bool.and_eq_true,Bool.or_eq_true,Bool.and_eq_false_iff,Bool.or_eq_false_iff,decide_eq_true_eq,decide_eq_false_iff_not];rw [←hix];omega)).symm|exact (oy (by simp only [iQ,Bool.and_eq_true,Bool.or_eq_true,Bool.and_eq_false_iff,Bool.or_eq_false_iff,decide_eq_true_eq,decide_eq_false_iff_not];rw [←hix];omega)).symm)) (sM rfl (sS rfl (sS rfl bQ))))))
   have fB:=of_decide_eq_false hg4;refine aD 31 [(42,.b (decide ((l.getD i 0)<(l.getD (cQ l (a8 l k) i).toNat 0)))),(41,.b (decide ((l.getD i 0)<(l.getD (cQ l (a8 l k) i).toNat 0)))),(40,.b (decide ((l.getD i 0)<(l.getD (cQ l (a8 l k) i).toNat 0)))),(39,.i (l.getD (cQ l (a8 l k) i).toNat 0)),(38,.rp (([.i (l.getD (cQ l (a8 l k) i).toNat 0)]:List AV)++((enc eI l).drop (((cQ l (a8 l k) i).toNat+1)*1)))),(37,.i (cQ l (a8 l k) i)),(36,.q eI l),(35,.i (l.getD i 0)),(34,.rp (([.i (l.getD i 0)]:List AV)++((enc eI l).drop ((i+1)*1)))),(33,.i (i:Int)),(32,.q eI l),(31,.b (decide ((cQ l (a8 l k) i)<0))),(30,.b (decide ((cQ l (a8 l k) i)<0))),(29,.i (cQ l (a8 l k) i)),(28,.b true),(27,.b true),(26,.v undef),(25,.v undef),(24,.v undef),(23,.v undef),(22,.v undef),(21,.v undef),(20,.v undef),(19,.v undef),(18,.v undef),(17,.v undef),(16,.v undef),(15,.b (((a8 l k).length:Int)==0)),(14,.b (((a8 l k).length:Int)==0)),(13,.i ((a8 l k).length:Int)),(12,.sl 1 0 ((a8 l k).length))] mixed ?_ ?_
   ·iterate 31 (refine ⟨?_,?_⟩;rotate_left)
    trivial
    ·exact aM
    ·exact dW 13 fun st ap hE=>d_ rfl rfl rfl rfl cG (fK (hE 12 rfl)) (by rw [ap];rfl)
    ·exact sB (.bool (((a8 l k).length:Int)==0)) rfl
    ·exact aM
    ·exact dr hg2
    ·exact dr hg2
    ·exact dr hg2
    ·exact dr hg2
    ·exact dr hg2
    ·exact dr hg2
    ·exact dr hg2
    ·exact dr hg2
    ·exact dr hg2
    ·exact dr hg2
    ·exact dr hg2
    ·exact mH (((a8 l k).length:Int)==0) (.b true) hg2
    ·exact aM
    ·exact dM rfl aM
    ·exact dM rfl (sB (.bool (decide ((cQ l (a8 l k) i)<0))) rfl)
    ·exact dM rfl aM
    ·exact bP hg4 aM
    ·exact bP hg4 aM
    ·exact bP hg4 (d4 (0:Int) cG bC)
    ·exact bP hg4 (cN Y0)
    ·exact bP hg4 aM
    ·exact bP hg4 aM
    ·exact bP hg4 (dW 38 fun st ap hE=>YZ 0 rfl rfl rfl cG bC (hE 36 rfl) (hE 37 rfl) (fun _=>rfl) rfl om oo (by rw [ap];rfl))
    ·exact bP hg4 (cN Y0)
    ·exact bP hg4 (sB (.bool (decide ((l.getD i 0)<(l.getD (cQ l (a8 l k) i).toNat 0)))) rfl)
    ·exact dM rfl (dW 41 fun st ap hE=>fJ (b:=(decide ((cQ l (a8 l k) i)<0))) (av:=.b (decide ((l.getD i 0)<(l.getD (cQ l (a8 l k) i).toNat 0)))) rfl rfl rfl (hE 31 rfl) (by rw [hg4];exact hE 40 rfl) (by rw [ap];rfl))
    exact dW 42 fun st ap hE=>fJ (b:=true) (av:=.b (decide ((l.getD i 0)<(l.getD (cQ l (a8 l k) i).toNat 0)))) rfl rfl rfl (hE 28 rfl) (hE 41 rfl) (by rw [ap];rfl)
   refine ak (cD (fun hc1=>?_) fun hc1=>?_)
   ·skip;have gl:=of_decide_eq_true hc1;refine bm (mV ?_);refine mV ?_;refine ak (bm (mV ?_));refine oG (qB (.int .i64 ((i+1:Nat):Int)) (addN om) ?_);refine mV ?_;refine ak ?_;show _∧_;refine ⟨by omega,trivial,?_⟩;exact iI 1 1 rfl (he:=(sS rfl (sS (by exact congrArg (fun n_:Int=>AV.v (.int .i64 n_)) (by first|exact (oC (by simp only [iQ,Bool.and_eq_true,Bool.or_eq_true,Bool.and_eq_false_iff,Bool.or_eq_false_iff,decide_eq_true_eq,decide_eq_false_iff_not];rw [←hix];omega)).symm|exact (oy (by simp only [iQ,Bool.and_eq_true,Bool.or_eq_true,Bool.and_eq_false_iff,Bool.or_eq_false_iff,decide_eq_true_eq,decide_eq_false_iff_not];rw [←hix];omega)).symm)) (sM rfl (sS rfl (sS rfl bQ))))))
   have il:=of_decide_eq_false hc1;refine aR (bm (mV ?_));refine oG (qB (.int .i64 ((i+1:Nat):Int)) (addN om) ?_);refine mV ?_;refine ak ?_;show _∧_;refine ⟨by omega,trivial,?_⟩;exact iI 1 1 rfl (he:=(sS rfl (sS (by exact congrArg (fun n_:Int=>AV.v (.int .i64 n_)) (by first|exact (oC (by simp only [iQ,Bool.and_eq_true,Bool.or_eq_true,Bool.and_eq_false_iff,Bool.or_eq_false_iff,decide_eq_true_eq,decide_eq_false_iff_not];rw [←hix];omega)).symm|exact (oy (by simp only [iQ,Bool.and_eq_true,Bool.or_eq_true,Bool.and_eq_false_iff,Bool.or_eq_false_iff,decide_eq_true_eq,decide_eq_false_iff_not];rw [←hix];omega)).symm)) (sM rfl (sS rfl (sS rfl bQ))))))
  have lz:=(beq_eq_false_iff_ne).1 hg2;refine (Bool.eq_false_or_eq_true (decide ((l.getD i 0)>((a8 l k).getD ((((a8 l k).length:Int)-1).toNat) 0)))).elim (fun fj=>?_) (fun fj=>?_)
  ·skip;have kL:=of_decide_eq_true fj;refine (Bool.eq_false_or_eq_true (decide ((cQ l (a8 l k) i)<0))).elim (fun eH=>?_) (fun eH=>?_)
   ·skip;have lN:=of_decide_eq_true eH;refine aD 31 [(42,.b true),(41,.b true),(40,.v undef),(39,.v undef),(38,.v undef),(37,.v undef),(36,.v undef),(35,.v undef),(34,.v undef),(33,.v undef),(32,.v undef),(31,.b (decide ((cQ l (a8 l k) i)<0))),(30,.b (decide ((cQ l (a8 l k) i)<0))),(29,.i (cQ l (a8 l k) i)),(28,.b (decide ((l.getD i 0)>((a8 l k).getD ((((a8 l k).length:Int)-1).toNat) 0)))),(27,.b (decide ((l.getD i 0)>((a8 l k).getD ((((a8 l k).length:Int)-1).toNat) 0)))),(26,.b (decide ((l.getD i 0)>((a8 l k).getD ((((a8 l k).length:Int)-1).toNat) 0)))),(25,.i ((a8 l k).getD ((((a8 l k).length:Int)-1).toNat) 0)),(24,.pt 1 ((((a8 l k).length:Int)-1).toNat*1)),(23,.i (((a8 l k).length:Int)-1)),(22,.i ((a8 l k).length:Int)),(21,.sl 1 0 ((a8 l k).length)),(20,.sl 1 0 ((a8 l k).length)),(19,.i (l.getD i 0)),(18,.rp (([.i (l.getD i 0)]:List AV)++((enc eI l).drop ((i+1)*1)))),(17,.i (i:Int)),(16,.q eI l),(15,.b (((a8 l k).length:Int)==0)),(14,.b (((a8 l k).length:Int)==0)),(13,.i ((a8 l k).length:Int)),(12,.sl 1 0 ((a8 l k).length))] mixed ?_ ?_
    ·iterate 31 (refine ⟨?_,?_⟩;rotate_left)
     trivial
     ·exact aM
     ·exact dW 13 fun st ap hE=>d_ rfl rfl rfl rfl cG (fK (hE 12 rfl)) (by rw [ap];rfl)
     ·exact sB (.bool (((a8 l k).length:Int)==0)) rfl
     ·exact aM
     ·exact bP hg2 aM
     ·exact bP hg2 aM
     ·exact bP hg2 (d4 (0:Int) cG bC)
     ·exact bP hg2 (cN Y0)
     ·exact bP hg2 aM
     ·exact bP hg2 aM
     ·exact bP hg2 (dW 22 fun st ap hE=>d_ rfl rfl rfl rfl cG (fK (hE 21 rfl)) (by rw [ap];rfl))
     ·exact bP hg2 (sB (.int .i64 (((a8 l k).length:Int)-1)) (kM om))
     ·exact bP hg2 (dW 24 fun st ap hE=>nA rfl rfl rfl cG bC (hE 20 rfl) (hE 23 rfl) om oo (by rw [ap];rfl))
     ·exact bP hg2 (dW 25 fun st ap hE=>nD (f:=eI) (l:=a8 l k) 0 rfl rfl rfl Y0 (hE 24 rfl) (by rw [ap];rfl) rfl (fun _=>rfl) oo rfl (by rw [ap];rfl))
     ·exact bP hg2 (sB (.bool (decide ((l.getD i 0)>((a8 l k).getD ((((a8 l k).length:Int)-1).toNat) 0)))) rfl)
     ·exact dW 27 fun st ap hE=>fJ (b:=(((a8 l k).length:Int)==0)) (av:=.b (decide ((l.getD i 0)>((a8 l k).getD ((((a8 l k).length:Int)-1).toNat) 0)))) rfl rfl rfl (hE 15 rfl) (by rw [hg2];exact hE 26 rfl) (by rw [ap];rfl)
     ·exact aM
     ·exact dM fj aM
     ·exact dM fj (sB (.bool (decide ((cQ l (a8 l k) i)<0))) rfl)
     ·exact dM fj aM
     ·exact dr eH
     ·exact dr eH
     ·exact dr eH
     ·exact dr eH
     ·exact dr eH
     ·exact dr eH
     ·exact dr eH
     ·exact dr eH
     ·exact dr eH
     ·exact dM fj (mH (decide ((cQ l (a8 l k) i)<0)) (.b true) eH)
     exact dW 42 fun st ap hE=>fJ (b:=(decide ((l.getD i 0)>((a8 l k).getD ((((a8 l k).length:Int)-1).toNat) 0)))) (av:=.b true) rfl rfl rfl (hE 28 rfl) (by rw [fj];exact hE 41 rfl) (by rw [ap];rfl)
    refine ak (eh true rfl rfl (fun _=>?_) (fun h=>by cases h));refine bm (mV ?_);refine mV ?_;refine ak (bm (mV ?_));refine oG (qB (.int .i64 ((i+1:Nat):Int)) (addN om) ?_);refine mV ?_;refine ak ?_;show _∧_;refine ⟨by omega,trivial,?_⟩;exact iI 1 1 rfl (he:=(sS rfl (sS (by exact congrArg (fun n_:Int=>AV.v (.int .i64 n_)) (by first|exact (oC (by simp only [iQ,Bool.and_eq_true,Bool.or_eq_true,Bool.and_eq_false_iff,Bool.or_eq_false_iff,decide_eq_true_eq,decide_eq_false_iff_not];rw [←hix];omega)).symm|exact (oy (by simp only [iQ,Bool.and_eq_true,Bool.or_eq_true,Bool.and_eq_false_iff,Bool.or_eq_false_iff,decide_eq_true_eq,decide_eq_false_iff_not];rw [←hix];omega)).symm)) (sM rfl (sS rfl (sS rfl bQ))))))
   have lP:=of_decide_eq_false eH;refine aD 31 [(42,.b (decide ((l.getD i 0)<(l.getD (cQ l (a8 l k) i).toNat 0)))),(41,.b (decide ((l.getD i 0)<(l.getD (cQ l (a8 l k) i).toNat 0)))),(40,.b (decide ((l.getD i 0)<(l.getD (cQ l (a8 l k) i).toNat 0)))),(39,.i (l.getD (cQ l (a8 l k) i).toNat 0)),(38,.rp (([.i (l.getD (cQ l (a8 l k) i).toNat 0)]:List AV)++((enc eI l).drop (((cQ l (a8 l k) i).toNat+1)*1)))),(37,.i (cQ l (a8 l k) i)),(36,.q eI l),(35,.i (l.getD i 0)),(34,.rp (([.i (l.getD i 0)]:List AV)++((enc eI l).drop ((i+1)*1)))),(33,.i (i:Int)),(32,.q eI l),(31,.b (decide ((cQ l (a8 l k) i)<0))),(30,.b (decide ((cQ l (a8 l k) i)<0))),(29,.i (cQ l (a8 l k) i)),(28,.b (decide ((l.getD i 0)>((a8 l k).getD ((((a8 l k).length:Int)-1).toNat) 0)))),(27,.b (decide ((l.getD i 0)>((a8 l k).getD ((((a8 l k).length:Int)-1).toNat) 0)))),(26,.b (decide ((l.getD i 0)>((a8 l k).getD ((((a8 l k).length:Int)-1).toNat) 0)))),(25,.i ((a8 l k).getD ((((a8 l k).length:Int)-1).toNat) 0)),(24,.pt 1 ((((a8 l k).length:Int)-1).toNat*1)),(23,.i (((a8 l k).length:Int)-1)),(22,.i ((a8 l k).length:Int)),(21,.sl 1 0 ((a8 l k).length)),(20,.sl 1 0 ((a8 l k).length)),(19,.i (l.getD i 0)),(18,.rp (([.i (l.getD i 0)]:List AV)++((enc eI l).drop ((i+1)*1)))),(17,.i (i:Int)),(16,.q eI l),(15,.b (((a8 l k).length:Int)==0)),(14,.b (((a8 l k).length:Int)==0)),(13,.i ((a8 l k).length:Int)),(12,.sl 1 0 ((a8 l k).length))] mixed ?_ ?_
   ·iterate 31 (refine ⟨?_,?_⟩;rotate_left)
    trivial
    ·exact aM
    ·exact dW 13 fun st ap hE=>d_ rfl rfl rfl rfl cG (fK (hE 12 rfl)) (by rw [ap];rfl)
    ·exact sB (.bool (((a8 l k).length:Int)==0)) rfl
    ·exact aM
    ·exact bP hg2 aM
    ·exact bP hg2 aM
    ·exact bP hg2 (d4 (0:Int) cG bC)
    ·exact bP hg2 (cN Y0)
    ·exact bP hg2 aM
    ·exact bP hg2 aM
    ·exact bP hg2 (dW 22 fun st ap hE=>d_ rfl rfl rfl rfl cG (fK (hE 21 rfl)) (by rw [ap];rfl))
    ·exact bP hg2 (sB (.int .i64 (((a8 l k).length:Int)-1)) (kM om))
    ·exact bP hg2 (dW 24 fun st ap hE=>nA rfl rfl rfl cG bC (hE 20 rfl) (hE 23 rfl) om oo (by rw [ap];rfl))
    ·exact bP hg2 (dW 25 fun st ap hE=>nD (f:=eI) (l:=a8 l k) 0 rfl rfl rfl Y0 (hE 24 rfl) (by rw [ap];rfl) rfl (fun _=>rfl) oo rfl (by rw [ap];rfl))
    ·exact bP hg2 (sB (.bool (decide ((l.getD i 0)>((a8 l k).getD ((((a8 l k).length:Int)-1).toNat) 0)))) rfl)
    ·exact dW 27 fun st ap hE=>fJ (b:=(((a8 l k).length:Int)==0)) (av:=.b (decide ((l.getD i 0)>((a8 l k).getD ((((a8 l k).length:Int)-1).toNat) 0)))) rfl rfl rfl (hE 15 rfl) (by rw [hg2];exact hE 26 rfl) (by rw [ap];rfl)
    ·exact aM
    ·exact dM fj aM
    ·exact dM fj (sB (.bool (decide ((cQ l (a8 l k) i)<0))) rfl)
    ·exact dM fj aM
    ·exact bP eH aM
    ·exact bP eH aM
    ·exact bP eH (d4 (0:Int) cG bC)
    ·exact bP eH (cN Y0)
    ·exact bP eH aM
    ·exact bP eH aM
    ·exact bP eH (dW 38 fun st ap hE=>YZ 0 rfl rfl rfl cG bC (hE 36 rfl) (hE 37 rfl) (fun _=>rfl) rfl om oo (by rw [ap];rfl))
    ·exact bP eH (cN Y0)
    ·exact bP eH (sB (.bool (decide ((l.getD i 0)<(l.getD (cQ l (a8 l k) i).toNat 0)))) rfl)
    ·exact dM fj (dW 41 fun st ap hE=>fJ (b:=(decide ((cQ l (a8 l k) i)<0))) (av:=.b (decide ((l.getD i 0)<(l.getD (cQ l (a8 l k) i).toNat 0)))) rfl rfl rfl (hE 31 rfl) (by rw [eH];exact hE 40 rfl) (by rw [ap];rfl))
    exact dW 42 fun st ap hE=>fJ (b:=(decide ((l.getD i 0)>((a8 l k).getD ((((a8 l k).length:Int)-1).toNat) 0)))) (av:=.b (decide ((l.getD i 0)<(l.getD (cQ l (a8 l k) i).toNat 0)))) rfl rfl rfl (hE 28 rfl) (by rw [fj];exact hE 41 rfl) (by rw [ap];rfl)
   refine ak (cD (fun hc1=>?_) fun hc1=>?_)
   ·skip;have nS:=of_decide_eq_true hc1;refine bm (mV ?_);refine mV ?_;refine ak (bm (mV ?_));refine oG (qB (.int .i64 ((i+1:Nat):Int)) (addN om) ?_);refine mV ?_;refine ak ?_;show _∧_;refine ⟨by omega,trivial,?_⟩;exact iI 1 1 rfl (he:=(sS rfl (sS (by exact congrArg (fun n_:Int=>AV.v (.int .i64 n_)) (by first|exact (oC (by simp only [iQ,Bool.and_eq_true,Bool.or_eq_true,Bool.and_eq_false_iff,Bool.or_eq_false_iff,decide_eq_true_eq,decide_eq_false_iff_not];rw [←hix];omega)).symm|exact (oy (by simp only [iQ,Bool.and_eq_true,Bool.or_eq_true,Bool.and_eq_false_iff,Bool.or_eq_false_iff,decide_eq_true_eq,decide_eq_false_iff_not];rw [←hix];omega)).symm)) (sM rfl (sS rfl (sS rfl bQ))))))
   have oU:=of_decide_eq_false hc1;refine aR (bm (mV ?_));refine oG (qB (.int .i64 ((i+1:Nat):Int)) (addN om) ?_);refine mV ?_;refine ak ?_;show _∧_;refine ⟨by omega,trivial,?_⟩;exact iI 1 1 rfl (he:=(sS rfl (sS (by exact congrArg (fun n_:Int=>AV.v (.int .i64 n_)) (by first|exact (oC (by simp only [iQ,Bool.and_eq_true,Bool.or_eq_true,Bool.and_eq_false_iff,Bool.or_eq_false_iff,decide_eq_true_eq,decide_eq_false_iff_not];rw [←hix];omega)).symm|exact (oy (by simp only [iQ,Bool.and_eq_true,Bool.or_eq_true,Bool.and_eq_false_iff,Bool.or_eq_false_iff,decide_eq_true_eq,decide_eq_false_iff_not];rw [←hix];omega)).symm)) (sM rfl (sS rfl (sS rfl bQ))))))
  have ZW:=of_decide_eq_false fj;refine aD 31 [(42,.b false),(41,.v undef),(40,.v undef),(39,.v undef),(38,.v undef),(37,.v undef),(36,.v undef),(35,.v undef),(34,.v undef),(33,.v undef),(32,.v undef),(31,.v undef),(30,.v undef),(29,.v undef),(28,.b (decide ((l.getD i 0)>((a8 l k).getD ((((a8 l k).length:Int)-1).toNat) 0)))),(27,.b (decide ((l.getD i 0)>((a8 l k).getD ((((a8 l k).length:Int)-1).toNat) 0)))),(26,.b (decide ((l.getD i 0)>((a8 l k).getD ((((a8 l k).length:Int)-1).toNat) 0)))),(25,.i ((a8 l k).getD ((((a8 l k).length:Int)-1).toNat) 0)),(24,.pt 1 ((((a8 l k).length:Int)-1).toNat*1)),(23,.i (((a8 l k).length:Int)-1)),(22,.i ((a8 l k).length:Int)),(21,.sl 1 0 ((a8 l k).length)),(20,.sl 1 0 ((a8 l k).length)),(19,.i (l.getD i 0)),(18,.rp (([.i (l.getD i 0)]:List AV)++((enc eI l).drop ((i+1)*1)))),(17,.i (i:Int)),(16,.q eI l),(15,.b (((a8 l k).length:Int)==0)),(14,.b (((a8 l k).length:Int)==0)),(13,.i ((a8 l k).length:Int)),(12,.sl 1 0 ((a8 l k).length))] mixed ?_ ?_
  ·iterate 31 (refine ⟨?_,?_⟩;rotate_left)
   trivial
   ·exact aM
   ·exact dW 13 fun st ap hE=>d_ rfl rfl rfl rfl cG (fK (hE 12 rfl)) (by rw [ap];rfl)
   ·exact sB (.bool (((a8 l k).length:Int)==0)) rfl
   ·exact aM
   ·exact bP hg2 aM
   ·exact bP hg2 aM
   ·exact bP hg2 (d4 (0:Int) cG bC)
   ·exact bP hg2 (cN Y0)
   ·exact bP hg2 aM
   ·exact bP hg2 aM
   ·exact bP hg2 (dW 22 fun st ap hE=>d_ rfl rfl rfl rfl cG (fK (hE 21 rfl)) (by rw [ap];rfl))
   ·exact bP hg2 (sB (.int .i64 (((a8 l k).length:Int)-1)) (kM om))
   ·exact bP hg2 (dW 24 fun st ap hE=>nA rfl rfl rfl cG bC (hE 20 rfl) (hE 23 rfl) om oo (by rw [ap];rfl))
   ·exact bP hg2 (dW 25 fun st ap hE=>nD (f:=eI) (l:=a8 l k) 0 rfl rfl rfl Y0 (hE 24 rfl) (by rw [ap];rfl) rfl (fun _=>rfl) oo rfl (by rw [ap];rfl))
   ·exact bP hg2 (sB (.bool (decide ((l.getD i 0)>((a8 l k).getD ((((a8 l k).length:Int)-1).toNat) 0)))) rfl)
   ·exact dW 27 fun st ap hE=>fJ (b:=(((a8 l k).length:Int)==0)) (av:=.b (decide ((l.getD i 0)>((a8 l k).getD ((((a8 l k).length:Int)-1).toNat) 0)))) rfl rfl rfl (hE 15 rfl) (by rw [hg2];exact hE 26 rfl) (by rw [ap];rfl)
   ·exact aM
   ·exact ef fj
   ·exact ef fj
   ·exact ef fj
   ·exact ⟨31,undef,rfl,bX rfl,rfl,(fun h=>by cases h),(fun _=>⟨32,rfl,bX rfl,.inr rfl⟩)⟩
   ·exact ⟨31,undef,rfl,bX rfl,rfl,(fun h=>by cases h),(fun _=>⟨33,rfl,bX rfl,.inr rfl⟩)⟩
   ·exact ⟨31,undef,rfl,bX rfl,rfl,(fun h=>by cases h),(fun _=>⟨34,rfl,bX rfl,.inr rfl⟩)⟩
   ·exact ⟨31,undef,rfl,bX rfl,rfl,(fun h=>by cases h),(fun _=>⟨35,rfl,bX rfl,.inr rfl⟩)⟩
   ·exact ⟨31,undef,rfl,bX rfl,rfl,(fun h=>by cases h),(fun _=>⟨36,rfl,bX rfl,.inr rfl⟩)⟩
   ·exact ⟨31,undef,rfl,bX rfl,rfl,(fun h=>by cases h),(fun _=>⟨37,rfl,bX rfl,.inr rfl⟩)⟩
   ·exact ⟨31,undef,rfl,bX rfl,rfl,(fun h=>by cases h),(fun _=>⟨38,rfl,bX rfl,.inr rfl⟩)⟩
   ·exact ⟨31,undef,rfl,bX rfl,rfl,(fun h=>by cases h),(fun _=>⟨39,rfl,bX rfl,.inr rfl⟩)⟩
   ·exact ⟨31,undef,rfl,bX rfl,rfl,(fun h=>by cases h),(fun _=>⟨40,rfl,bX rfl,.inr rfl⟩)⟩
   ·exact ef fj
   exact mH (decide ((l.getD i 0)>((a8 l k).getD ((((a8 l k).length:Int)-1).toNat) 0))) (.b false) fj
  refine ak (eh false rfl rfl (fun h=>by cases h) (fun _=>?_));refine aR (bm (mV ?_));refine oG (qB (.int .i64 ((i+1:Nat):Int)) (addN om) ?_);refine mV ?_;refine ak ?_;show _∧_;refine ⟨by omega,trivial,?_⟩;exact iI 1 1 rfl (he:=(sS rfl (sS (by exact congrArg (fun n_:Int=>AV.v (.int .i64 n_)) (by first|exact (oC (by simp only [iQ,Bool.and_eq_true,Bool.or_eq_true,Bool.and_eq_false_iff,Bool.or_eq_false_iff,decide_eq_true_eq,decide_eq_false_iff_not];rw [←hix];omega)).symm|exact (oy (by simp only [iQ,Bool.and_eq_true,Bool.or_eq_true,Bool.and_eq_false_iff,Bool.or_eq_false_iff,decide_eq_true_eq,decide_eq_false_iff_not];rw [←hix];omega)).symm)) (sM rfl (sS rfl (sS rfl bQ))))))
 have mx:=of_decide_eq_false hc0;have hie:i=l.length:=by omega
 refine cu (aB (aj (mV ?_)));refine bB ?_;refine ak (cD (fun hc2=>?_) fun hc2=>?_)
 ·skip;have nT:=of_decide_eq_true hc2;have hb2:cQ l (a8 l k) l.length<0:=by rw [←hie];exact of_decide_eq_true hc2
  refine aj (mS ?_);refine mS ?_;refine rU (upd (upd (upd (upd (upd none_ 0 (.q eI l)) 2 (.sl 1 0 ((a8 l k).length))) 3 (.sl 1 0 ((a8 l k).length))) 4 (.i (cQ l (a8 l k) i))) 5 (.i (i:Int))) (xN l k) ?_;refine cy _ (d8 rfl (fun _ h=>h) (dy 2 (.q eI (a8 l k)) (fv (id:=1) (n:=(a8 l k).length) (o:=⟨(enc eI (a8 l k)),3,1⟩) rfl (YW (fun _=>rfl) (by first|rfl|(simp;done)))) d9)) ?_;exact aV (bq (av:=.ro ((a8 l k).length) (enc eI (a8 l k))) rfl rfl (by rw [O1 hk1 hb2]))
 have oW:=of_decide_eq_false hc2;have c5:¬cQ l (a8 l k) l.length<0:=by rw [←hie];exact of_decide_eq_false hc2
 refine aR (bm (mS ?_));refine mO ?_;refine mV ?_;refine oG (YZ 0 rfl rfl rfl cG bC rfl rfl (fun _=>rfl) rfl om oo ?_);refine oV Y0 ?_;refine oG (Y8 rfl rfl rfl cG mF (by decide) (by decide) rfl rfl ?_);refine oG (hS (f:=eI) (l:=a8 l k) 52 (l.getD (cQ l (a8 l k) i).toNat 0:Int) rfl rfl rfl rfl cG ud rfl (by decide) rfl rfl rfl rfl rfl rfl (fun _=>rfl) rfl rfl oo oo rfl ?_);refine mS ?_;refine ak ?_;show _∧_;have hs_:=Ab c5;rw [←hie] at hs_;refine ⟨by omega,(zT hk1 c5),?_⟩;exact iI 52 1 (o:=⟨(enc eI ((a8 l k)++[(l.getD (cQ l (a8 l k) i).toNat 0:Int)])),3,1⟩) rfl (he:=(sM (by exact congrArg (AV.sl 1 0) (congrArg List.length hs_.symm)) (sS rfl (sS rfl bQ)))) (eJ:=(by exact congrArg (fun l_=>ay.mk (enc eI l_) 3 1) hs_))
abbrev xO (s e p:Int):Nat→aK:=(ah (ah aG 51 (.live ⟨[.i s,.i e],124,1⟩)) 52 (.live ⟨[.i p,.one],124,1⟩))
abbrev ZG (a:List aH) (c:List ax) (s e:Int):AV:=(.rp (([.i ((a.getD (aX a (aF c s e)).toNat dP).node),.i ((a.getD (aX a (aF c s e)).toNat dP).stem),.i ((a.getD (aX a (aF c s e)).toNat dP).left),.i ((a.getD (aX a (aF c s e)).toNat dP).right)]:List AV)++((enc aE a).drop (((aX a (aF c s e)).toNat+1)*4))))
abbrev o8 (c:List ax) (a:List aH):AV:=(.rp [.one,.q aI c,.one,.q aE a,.one,.one,.one,.one,.one,.one])
abbrev xP (c:List ax) (a:List aH):Nat→AV:=(upd (upd none_ 0 (o8 c a)) 4 (.pt 51 0))
theorem SN (c:List ax) (a:List aH) (s e p:Int) (hs:c.length≤65536) (hp:a.length≤65536):Fn Tryz.prog 98 [.rp [.one,.q aI c,.one,.q aE a,.one,.one,.one,.one,.one,.one],.agg [.v (.int .i64 s),.v (.int .i64 e)],.agg [.v (.int .i64 p),.one]] (.q eN (fP c a s e p)):=by
 refine cf (N:=51) Tryz.func98 rfl rfl (b_ rfl) (by simp) (fun w0 X bJ=>?_);refine aj (oG (qW 51 ?_));refine oG (qW 52 ?_);refine mV ?_;refine ak (aj (mR ?_));refine oG (ZI [.i s,.i e] im dT ?_);refine oG (qC (Iw c s e oo) I_ ?_);refine mG (.bw [.i (aF c s e),.b (!eD c s e)]) ?_;refine oG (qE ?_);refine oG (qE ?_);refine mV ?_;refine mV ?_;refine rU (upd (upd (upd (xP c a) 5 (.pt 52 0)) 6 vN) 7 (.i (aF c s e))) (xO s e p) ?_;refine aj (mR ?_);refine mV ?_;refine oG (qC (HN a (aF c s e) oo) Ja ?_);refine mV ?_;refine rU (upd (upd (upd (xP c a) 5 (.pt 52 0)) 6 vN) 9 (.i (aX a (aF c s e)))) (xO s e p) ?_;refine aB (aj (mV ?_));refine bB ?_;refine ak (cD (fun hc0=>?_) fun hc0=>?_)
 ·skip;have hf1:=of_decide_eq_true hc0;have hi:aX a (aF c s e)<0:=by omega
  refine aj (mV ?_);refine ak (cy _ (d8 rfl (fun _ h=>h) (dy 6 (.ro 0 []) .nil d9)) ?_);exact aV (bq (av:=.ro 0 []) rfl rfl (by rw [Av hi];rfl))
 have hf2:=of_decide_eq_false hc0;have hi:¬aX a (aF c s e)<0:=by omega
 have fT:=q_ a (aF c s e);refine aR (aj (fG (.pt 52 0) ZL bC ?_));refine oV Y0 ?_;refine mV ?_;refine rU (upd (upd (upd (xP c a) 6 vN) 9 (.i (aX a (aF c s e)))) 10 (.i p)) (xO s e p) ?_;refine aB (aj (mR ?_));refine oG (dC rfl rfl rfl rfl rfl ?_);refine oG (qF (o8 c a) (o8 c a) pJ cC ?_);refine oG (qF (o8 c a) (.rp [.q aE a,.one,.one,.one,.one,.one,.one]) gU gb ?_);refine oO iw ?_;refine mV ?_;refine oG (YZ dP rfl rfl rfl gI jk rfl rfl (fun _=>rfl) rfl om oo ?_);refine oG (qF (ZG a c s e) (.rp (([.i ((a.getD (aX a (aF c s e)).toNat dP).stem),.i ((a.getD (aX a (aF c s e)).toNat dP).left),.i ((a.getD (aX a (aF c s e)).toNat dP).right)]:List AV)++((enc aE a).drop (((aX a (aF c s e)).toNat+1)*4)))) mW bC ?_);refine oV Y0 ?_;refine mV ?_;refine bB ?_;refine rU (upd (upd (upd (upd (xP c a) 6 vN) 9 (.i (aX a (aF c s e)))) 10 (.i p)) 34 (.b (((a.getD (aX a (aF c s e)).toNat dP).stem)==p))) (xO s e p) ?_;refine jl ⟨(upd (upd (upd (upd none_ 0 (o8 c a)) 6 vN) 9 (.i (aX a (aF c s e)))) 10 (.i (if (a.getD (aX a (aF c s e)).toNat dP).stem=p then s else p))),aG⟩ (fun s h=>h) ?_ ?_
 ·skip;refine cD (fun hc1=>?_) fun hc1=>?_
  ·skip;have hf3:=(beq_iff_eq).1 hc1;refine bm (fG (.pt 51 0) ZL bC ?_);refine oV Y0 ?_;refine mV ?_;refine ak ?_;show ck _ _ _;exact iN (he:=(sS (by exact congrArg (fun n_:Int=>AV.v (.int .i64 n_)) (by first|exact (if_pos (by simpa using hc1)).symm|exact (if_neg (by simpa using hc1)).symm)) (sS rfl (sS rfl (sS rfl bQ)))))
  have eb:=(beq_eq_false_iff_ne).1 hc1;refine aR ?_;show ck _ _ _;exact iN (he:=(sS (by exact congrArg (fun n_:Int=>AV.v (.int .i64 n_)) (by first|exact (if_pos (by simpa using hc1)).symm|exact (if_neg (by simpa using hc1)).symm)) (sS rfl (sS rfl (sS rfl bQ)))))
 refine aj (mV ?_);refine mR ?_;refine oG (dC rfl rfl rfl rfl rfl ?_);refine oG (qF (o8 c a) (o8 c a) pJ cC ?_);refine oG (qF (o8 c a) (.rp [.q aE a,.one,.one,.one,.one,.one,.one]) gU gb ?_);refine oO iw ?_;refine mV ?_;refine oG (YZ dP rfl rfl rfl gI jk rfl rfl (fun _=>rfl) rfl om oo ?_);refine oG (qF (ZG a c s e) (.rp (([.i ((a.getD (aX a (aF c s e)).toNat dP).right)]:List AV)++((enc aE a).drop (((aX a (aF c s e)).toNat+1)*4)))) pM bC ?_);refine oV Y0 ?_;refine mV ?_;refine bB ?_;refine oG (qD VV ?_);refine oG (Y8 rfl rfl rfl iq JM (by decide) (by decide) rfl rfl ?_);refine mO ?_;refine rU (upd none_ 6 (.ro 1 [.i (aX a (aF c s e)),.b (((a.getD (aX a (aF c s e)).toNat dP).right)==(if (a.getD (aX a (aF c s e)).toNat dP).stem=p then s else p))])) aG ?_;exact aV (bq (av:=.ro 1 [.v (.int .i64 (aX a (aF c s e))),.v (.bool (((a.getD (aX a (aF c s e)).toNat dP).right)==(if (a.getD (aX a (aF c s e)).toNat dP).stem=p then s else p)))]) rfl rfl (by rw [Ac hi rfl rfl];rfl))
theorem SO (x g:Int):Fn Tryz.prog 97 [.agg [.v (.int .i64 x),.one],.rp [.v (.int .i64 g)]] (.v (.bool (decide (x=g)))):=by
 refine cf (N:=8) Tryz.func97 rfl rfl (b_ rfl) (by simp) (fun w0 X bJ=>?_);refine aj (oG (qW 51 ?_));refine mV ?_;refine ak (aj (fG (.pt 51 0) ZL bC ?_));refine oV Y0 ?_;refine oV Y0 ?_;refine bB ?_;refine mV ?_;refine rU (upd none_ 3 (.b (x==g))) (ah aG 51 (.live ⟨[.i x,.one],124,1⟩)) ?_;exact aV (bq (av:=.v (.bool (x==g))) rfl rfl (by rfl))
abbrev Ds (l:List En) (s:Int):Nat→AV:=(upd (upd (upd none_ 0 (.q bH l)) 1 (.fn 97 [.rp [.i s]])) 4 (.i 0))
theorem Ub (l:List En) (s:Int) (hl:l.length≤4294967296):Fn Tryz.prog 96 [.q bH l,.fn 97 [.rp [.v (.int .i64 s)]]] (.v (.int .i64 (bL (fun x:En=>decide (x.sec=s)) l))):=by
 refine cf (N:=19) Tryz.func96 rfl rfl (b_ rfl) (by simp) (fun w0 X bJ=>?_);refine aj (mV ?_);refine ak (aB (aj (mO ?_)));refine oG (qN dF ?_);refine mV ?_;refine rU (upd (upd (Ds l s) 7 (.i (l.length:Int))) 8 (.i 0)) aG ?_;refine bf (cF (fun k=>⟨(upd (upd (Ds l s) 7 (.i (l.length:Int))) 8 (.i (k:Int))),aG⟩) (fun k=>(l.take k).any (fun x:En=>decide (x.sec=s))=false) (l.length) ?_ (by simp) (fun k dq hinv=>?_))
 ·skip;exact iN
 refine aj (bB ?_);refine ak (aB (cD (fun hc0=>?_) fun hc0=>?_))
 ·skip;have hf1:=of_decide_eq_true hc0;refine aR (aB (bf (aj (mV ?_))));refine mV ?_;refine ak (aj (mG (.fn 97 [.rp [.i s]]) ?_));refine mO ?_;refine mV ?_;refine oG (qX dE dF dT ?_);refine oG (ZI [.i ((l.getD k dE).sec),.i ((l.getD k dE).en)] im dT ?_);refine oG (qC (SO ((l.getD k dE).sec) s) VT ?_);refine rU (upd (upd (upd (upd (Ds l s) 5 (.i (k:Int))) 7 (.i (l.length:Int))) 8 (.i (k:Int))) 16 (.b (decide (((l.getD k dE).sec)=s)))) aG ?_;refine cD (fun hc1=>?_) fun hc1=>?_
  ·skip;refine aj (mV ?_);refine mV ?_;exact ak (aV (bq (av:=.v (.int .i64 (k:Int))) rfl rfl (by rw [hJ (f:=fun x:En=>decide (x.sec=s)) dE om hinv hc1]<;>rfl)))
  refine aR (bm (oG (qB (.int .i64 ((k+1:Nat):Int)) (addN om) ?_)));refine mV ?_;refine ak ?_;show _∧_;refine ⟨by omega,(gT dE om hinv hc1),?_⟩;exact iN
 have hf2:=of_decide_eq_false hc0;refine cu (aj (mV ?_));exact ak (aV (bq (av:=.v (.int .i64 (-1))) rfl rfl (by rw [iK (f:=fun x:En=>decide (x.sec=s)) om hinv]<;>rfl)))
abbrev xQ (a:List ax) (c:List aH) (d:List Int) (s e:Int) (k:Nat):List AV:=[.i ((az a c d ⟨s,e,[]⟩ k).s),.i ((az a c d ⟨s,e,[]⟩ k).e)]
abbrev La (a:List ax) (c:List aH) (d:List Int) (s e:Int) (k:Nat):List AV:=[.i (((bo a c ((az a c d ⟨s,e,[]⟩ k).s) ((az a c d ⟨s,e,[]⟩ k).e)).getD (dZ a c (az a c d ⟨s,e,[]⟩ k).s (az a c d ⟨s,e,[]⟩ k).e (d.getD k 0)).toNat dE).en)]
abbrev Lb (d:List Int) (k:Nat) (a:List ax) (c:List aH) (s e:Int):List AV:=[.i (d.getD k 0),.i (1-(((bo a c ((az a c d ⟨s,e,[]⟩ k).s) ((az a c d ⟨s,e,[]⟩ k).e)).getD (dZ a c (az a c d ⟨s,e,[]⟩ k).s (az a c d ⟨s,e,[]⟩ k).e (d.getD k 0)).toNat dE).en))]
abbrev uq (a:List ax) (c:List aH) (d:List Int) (s e:Int) (k:Nat):List AV:=(enc bH (bo a c ((az a c d ⟨s,e,[]⟩ k).s) ((az a c d ⟨s,e,[]⟩ k).e)))
abbrev xR (a:List ax) (c:List aH):List AV:=[.one,.q aI a,.one,.q aE c,.one,.one,.one,.one,.one,.one]
abbrev Dt (a:List ax) (c:List aH) (d:List Int) (s e:Int) (k:Nat):Nat→aK:=(ah (ah aG 1 (.live ⟨(enc eN ((az a c d ⟨s,e,[]⟩ k).ns)),95,2⟩)) 2 (.live ⟨(xQ a c d s e k),124,1⟩))
abbrev Du (a:List ax) (c:List aH) (d:List Int) (s e:Int) (k:Nat):AV:=(.q bH (bo a c ((az a c d ⟨s,e,[]⟩ k).s) ((az a c d ⟨s,e,[]⟩ k).e)))
abbrev xS (a:List ax) (c:List aH) (d:List Int) (s e:Int) (k:Nat):Nat→AV:=(upd (upd (upd (upd (upd none_ 0 (.rp (xR a c))) 4 (.pt 2 0)) 6 vN) 7 (.b false)) 8 (.sl 1 0 ((az a c d ⟨s,e,[]⟩ k).ns.length)))
abbrev ut (a:List ax) (c:List aH) (d:List Int) (s e:Int) (k:Nat):Nat→aK:=(ah (ah (Dt a c d s e k) 53 (.live ⟨[.i 0],3,1⟩)) 53 (.live ⟨[.i (d.getD k 0)],3,1⟩))
abbrev uu (a:List ax) (c:List aH) (d:List Int) (s e:Int) (k:Nat):List AV:=[.i (((bo a c ((az a c d ⟨s,e,[]⟩ k).s) ((az a c d ⟨s,e,[]⟩ k).e)).getD (dZ a c (az a c d ⟨s,e,[]⟩ k).s (az a c d ⟨s,e,[]⟩ k).e (d.getD k 0)).toNat dE).sec),.i (((bo a c ((az a c d ⟨s,e,[]⟩ k).s) ((az a c d ⟨s,e,[]⟩ k).e)).getD (dZ a c (az a c d ⟨s,e,[]⟩ k).s (az a c d ⟨s,e,[]⟩ k).e (d.getD k 0)).toNat dE).en)]
abbrev Lc (a:List ax) (c:List aH) (d:List Int) (s e:Int) (k:Nat):Nat→AV:=(upd (upd (upd (upd (upd (upd (xS a c d s e k) 10 (.pt 53 0)) 11 (Du a c d s e k)) 12 (.i (dZ a c (az a c d ⟨s,e,[]⟩ k).s (az a c d ⟨s,e,[]⟩ k).e (d.getD k 0)))) 13 (.q eI d)) 14 (.i (d.length:Int))) 15 (.i (k:Int)))
theorem Uc (a:List ax) (c:List aH) (s e:Int) (d:List Int) (hs:a.length≤65536) (hp:c.length≤65536) (hpl:d.length≤65536):Fn Tryz.prog 74 [.rp [.one,.q aI a,.one,.q aE c,.one,.one,.one,.one,.one,.one],.agg [.v (.int .i64 s),.v (.int .i64 e)],.q eI d] (.bw [.q eN (jb a c s e d),.v (.bool (g5 a c s e d))]):=by
 refine cf (N:=46) Tryz.func74 rfl rfl (iY rfl) (by simp) (fun w0 X bJ=>?_);refine aj (oG (qW 51 ?_));refine mV ?_;refine mV ?_;refine ak (aj (mV ?_));refine rU (upd (upd (upd (upd (upd (upd none_ 0 (.rp (xR a c))) 2 (.q eI d)) 4 (.pt 51 0)) 6 vN) 7 (.b false)) 8 vN) (ah aG 51 (.live ⟨[.i s,.i e],124,1⟩)) ?_;refine aB (aj (mO ?_));refine oG (qN cG ?_);refine mV ?_;refine ak (bf (cF (fun k=>⟨(upd (upd (upd (xS a c d s e k) 13 (.q eI d)) 14 (.i (d.length:Int))) 15 (.i (k:Int))),(Dt a c d s e k)⟩) (fun k=>js a c (d.drop k) (az a c d ⟨s,e,[]⟩ k)=jt a c s e d) (d.length) ?_ rfl (fun k dq hinv=>?_)))
 ·skip;refine (iz 8 52 95 2 rfl rfl).trans ?_;exact iL [(52,1),(51,2)] [((52,1),.live _),((51,2),.live _)] ⟨aP (o:=⟨[],95,2⟩) rfl rfl,aP rfl rfl,trivial⟩
 have hwl:=Aw (secs:=a) (pts:=c) (path:=d) ⟨s,e,[]⟩ rfl k;have hal:=zw a c (az a c d ⟨s,e,[]⟩ k).s (az a c d ⟨s,e,[]⟩ k).e;have hnl:=Ad (secs:=a) (pts:=c) (s:=(az a c d ⟨s,e,[]⟩ k).s) (e:=(az a c d ⟨s,e,[]⟩ k).e) (p:=((bo a c (az a c d ⟨s,e,[]⟩ k).s (az a c d ⟨s,e,[]⟩ k).e).getD (dZ a c (az a c d ⟨s,e,[]⟩ k).s (az a c d ⟨s,e,[]⟩ k).e (d.getD k 0)).toNat dE).sec);refine aj (bB ?_);refine ak (aB (cD (fun hc0=>?_) fun hc0=>?_))
 ·skip;have hf1:=of_decide_eq_true hc0;refine aR (aB (bf (aj (oG (qX (0:Int) cG bC ?_)))));refine oV Y0 ?_;refine oG (fW 53 rfl rfl rfl rfl K9 rfl ?_);refine oG (qS bC ?_);refine rU (upd (upd (upd (upd (xS a c d s e k) 10 (.pt 53 0)) 13 (.q eI d)) 14 (.i (d.length:Int))) 15 (.i (k:Int))) (ut a c d s e k) ?_;refine aj (mR ?_);refine oG (ZI (xQ a c d s e k) im dT ?_);refine oG (qJ (P7 a c ((az a c d ⟨s,e,[]⟩ k).s) ((az a c d ⟨s,e,[]⟩ k).e) oo oo) VS ?_);refine mO ?_;refine rU (upd (upd (upd (upd (upd (xS a c d s e k) 10 (.pt 53 0)) 11 (Du a c d s e k)) 13 (.q eI d)) 14 (.i (d.length:Int))) 15 (.i (k:Int))) (ut a c d s e k) ?_;refine aj (mO ?_);refine oG (k9 (caps:=[.tmp 10]) rfl rfl rfl rfl ?_);refine oG (eA (show Fn Tryz.prog 96 [.q bH (bo a c ((az a c d ⟨s,e,[]⟩ k).s) ((az a c d ⟨s,e,[]⟩ k).e)),.fn 97 [.rp [.i (d.getD k 0)]]] (.i (dZ a c (az a c d ⟨s,e,[]⟩ k).s (az a c d ⟨s,e,[]⟩ k).e (d.getD k 0))) from (by have h_:=Ub (bo a c (az a c d ⟨s,e,[]⟩ k).s (az a c d ⟨s,e,[]⟩ k).e) (d.getD k 0) om;exact h_)) rfl rfl rfl rfl rfl JY (bb (cj (av:=.q bH (bo a c ((az a c d ⟨s,e,[]⟩ k).s) ((az a c d ⟨s,e,[]⟩ k).e)))) (bb (lf lT) fe)) ?_);refine mV ?_;refine rU (Lc a c d s e k) (ut a c d s e k) ?_;refine aB (aj (mV ?_));refine bB ?_;refine ak (cD (fun hc1=>?_) fun hc1=>?_)
  ·skip;have hf2:=of_decide_eq_true hc1;have hO:=Ax om hinv (show (dZ a c (az a c d ⟨s,e,[]⟩ k).s (az a c d ⟨s,e,[]⟩ k).e (d.getD k 0))<0 by omega);refine aj (mV ?_);refine mV ?_;refine rU (Lc a c d s e k) (ut a c d s e k) ?_;refine cy _ (d8 rfl (fun _ h=>h) (dy 7 (.b false) (cj (av:=.b false)) (dy 6 (.ro 0 []) .nil d9))) ?_;exact aV (bq (av:=.bw [.ro 0 [],.v (.bool false)]) rfl rfl (by rw [(oD hO).1,(oD hO).2];rfl))
  have hf3:=of_decide_eq_false hc1;have hns:¬(dZ a c (az a c d ⟨s,e,[]⟩ k).s (az a c d ⟨s,e,[]⟩ k).e (d.getD k 0))<0:=by omega
  have hxo:=td (secs:=a) (pts:=c) (p:=d.getD k 0) (w:=(az a c d ⟨s,e,[]⟩ k)) hns;have hx1:((bo a c (az a c d ⟨s,e,[]⟩ k).s (az a c d ⟨s,e,[]⟩ k).e).getD (dZ a c (az a c d ⟨s,e,[]⟩ k).s (az a c d ⟨s,e,[]⟩ k).e (d.getD k 0)).toNat dE).en=0∨((bo a c (az a c d ⟨s,e,[]⟩ k).s (az a c d ⟨s,e,[]⟩ k).e).getD (dZ a c (az a c d ⟨s,e,[]⟩ k).s (az a c d ⟨s,e,[]⟩ k).e (d.getD k 0)).toNat dE).en=1:=hxo.1;have hx3:=hxo.2.2;refine aR (aB (aD 8 [(34,.q eN (fP a c ((az a c d ⟨s,e,[]⟩ k).s) ((az a c d ⟨s,e,[]⟩ k).e) (((bo a c ((az a c d ⟨s,e,[]⟩ k).s) ((az a c d ⟨s,e,[]⟩ k).e)).getD (dZ a c (az a c d ⟨s,e,[]⟩ k).s (az a c d ⟨s,e,[]⟩ k).e (d.getD k 0)).toNat dE).sec))),(33,.agg (uu a c d s e k)),(32,.rp (((uu a c d s e k):List AV)++((uq a c d s e k).drop (((dZ a c (az a c d ⟨s,e,[]⟩ k).s (az a c d ⟨s,e,[]⟩ k).e (d.getD k 0)).toNat+1)*2)))),(31,.i (dZ a c (az a c d ⟨s,e,[]⟩ k).s (az a c d ⟨s,e,[]⟩ k).e (d.getD k 0))),(30,.q bH (bo a c ((az a c d ⟨s,e,[]⟩ k).s) ((az a c d ⟨s,e,[]⟩ k).e))),(29,.agg (xQ a c d s e k)),(28,.rp (xR a c)),(27,.sl 1 0 ((az a c d ⟨s,e,[]⟩ k).ns.length))] mixed ?_ ?_))
  ·refine ⟨?_,?_,?_,?_,?_,?_,?_,?_,trivial⟩
   ·exact aM
   ·exact aM
   ·exact ed (xQ a c d s e k) im dT
   ·exact aM
   ·exact aM
   ·exact dW 32 fun st ap hE=>YZ dE rfl rfl rfl dF dT (hE 30 rfl) (hE 31 rfl) (fun _=>rfl) rfl om oo (by rw [ap];rfl)
   ·exact dW 33 fun st ap hE=>jO (cells':=(uu a c d s e k)) rfl rfl rfl im dT (hE 32 rfl) rfl rfl rfl (by rw [ap];rfl)
   exact sC (SN a c ((az a c d ⟨s,e,[]⟩ k).s) ((az a c d ⟨s,e,[]⟩ k).e) (((bo a c ((az a c d ⟨s,e,[]⟩ k).s) ((az a c d ⟨s,e,[]⟩ k).e)).getD (dZ a c (az a c d ⟨s,e,[]⟩ k).s (az a c d ⟨s,e,[]⟩ k).e (d.getD k 0)).toNat dE).sec) oo oo) VU
  refine oG (nz (f:=eN) (l:=(az a c d ⟨s,e,[]⟩ k).ns) (l2:=fP a c ((az a c d ⟨s,e,[]⟩ k).s) ((az a c d ⟨s,e,[]⟩ k).e) (((bo a c ((az a c d ⟨s,e,[]⟩ k).s) ((az a c d ⟨s,e,[]⟩ k).e)).getD (dZ a c (az a c d ⟨s,e,[]⟩ k).s (az a c d ⟨s,e,[]⟩ k).e (d.getD k 0)).toNat dE).sec)) 54 rfl rfl rfl rfl iq JL rfl (by decide) rfl rfl rfl rfl rfl rfl (fun _=>rfl) rfl rfl rfl oo oo rfl ?_);refine mS ?_;refine ak (rT (upd (upd (upd (upd (upd (upd (upd (upd (upd (upd (upd none_ 0 (.rp (xR a c))) 4 (.pt 2 0)) 6 vN) 7 (.b false)) 8 (.sl 54 0 ((((az a c d ⟨s,e,[]⟩ k).ns)++(fP a c ((az a c d ⟨s,e,[]⟩ k).s) ((az a c d ⟨s,e,[]⟩ k).e) (((bo a c ((az a c d ⟨s,e,[]⟩ k).s) ((az a c d ⟨s,e,[]⟩ k).e)).getD (dZ a c (az a c d ⟨s,e,[]⟩ k).s (az a c d ⟨s,e,[]⟩ k).e (d.getD k 0)).toNat dE).sec))).length))) 10 (.pt 53 0)) 11 (Du a c d s e k)) 12 (.i (dZ a c (az a c d ⟨s,e,[]⟩ k).s (az a c d ⟨s,e,[]⟩ k).e (d.getD k 0)))) 13 (.q eI d)) 14 (.i (d.length:Int))) 15 (.i (k:Int))) (ah (ah (ut a c d s e k) 1 .dead) 54 (.live ⟨(enc eN (((az a c d ⟨s,e,[]⟩ k).ns)++(fP a c ((az a c d ⟨s,e,[]⟩ k).s) ((az a c d ⟨s,e,[]⟩ k).e) (((bo a c ((az a c d ⟨s,e,[]⟩ k).s) ((az a c d ⟨s,e,[]⟩ k).e)).getD (dZ a c (az a c d ⟨s,e,[]⟩ k).s (az a c d ⟨s,e,[]⟩ k).e (d.getD k 0)).toNat dE).sec)))),95,2⟩)) ?_);refine aD 8 [(43,.agg (Lb d k a c s e)),(42,.i (1-(((bo a c ((az a c d ⟨s,e,[]⟩ k).s) ((az a c d ⟨s,e,[]⟩ k).e)).getD (dZ a c (az a c d ⟨s,e,[]⟩ k).s (az a c d ⟨s,e,[]⟩ k).e (d.getD k 0)).toNat dE).en))),(41,.i (((bo a c ((az a c d ⟨s,e,[]⟩ k).s) ((az a c d ⟨s,e,[]⟩ k).e)).getD (dZ a c (az a c d ⟨s,e,[]⟩ k).s (az a c d ⟨s,e,[]⟩ k).e (d.getD k 0)).toNat dE).en)),(40,.rp (((La a c d s e k):List AV)++((uq a c d s e k).drop (((dZ a c (az a c d ⟨s,e,[]⟩ k).s (az a c d ⟨s,e,[]⟩ k).e (d.getD k 0)).toNat+1)*2)))),(39,.rp (((uu a c d s e k):List AV)++((uq a c d s e k).drop (((dZ a c (az a c d ⟨s,e,[]⟩ k).s (az a c d ⟨s,e,[]⟩ k).e (d.getD k 0)).toNat+1)*2)))),(38,.i (dZ a c (az a c d ⟨s,e,[]⟩ k).s (az a c d ⟨s,e,[]⟩ k).e (d.getD k 0))),(37,.q bH (bo a c ((az a c d ⟨s,e,[]⟩ k).s) ((az a c d ⟨s,e,[]⟩ k).e))),(36,.i (d.getD k 0))] mixed ?_ ?_
  ·refine ⟨?_,?_,?_,?_,?_,?_,?_,?_,trivial⟩
   ·exact sL Y0
   ·exact aM
   ·exact aM
   ·exact dW 39 fun st ap hE=>YZ dE rfl rfl rfl dF dT (hE 37 rfl) (hE 38 rfl) (fun _=>rfl) rfl om oo (by rw [ap];rfl)
   ·exact sF (.rp (((uu a c d s e k):List AV)++((uq a c d s e k).drop (((dZ a c (az a c d ⟨s,e,[]⟩ k).s (az a c d ⟨s,e,[]⟩ k).e (d.getD k 0)).toNat+1)*2)))) (.rp (((La a c d s e k):List AV)++((uq a c d s e k).drop (((dZ a c (az a c d ⟨s,e,[]⟩ k).s (az a c d ⟨s,e,[]⟩ k).e (d.getD k 0)).toNat+1)*2)))) mf bC
   ·exact (cN Y0)
   ·exact sB (.int .i64 (1-(((bo a c ((az a c d ⟨s,e,[]⟩ k).s) ((az a c d ⟨s,e,[]⟩ k).e)).getD (dZ a c (az a c d ⟨s,e,[]⟩ k).s (az a c d ⟨s,e,[]⟩ k).e (d.getD k 0)).toNat dE).en))) (kM om)
   exact dW 43 fun st ap hE=>kb rfl rfl rfl lj (by simp only [eY,List.map,aU,hE 36 rfl,hE 42 rfl];rfl) (by rw [ap];rfl)
  refine oG (qS dT ?_);refine ak (bm (oG (qB (.int .i64 ((k+1:Nat):Int)) (addN om) ?_)));refine mV ?_;refine ak ?_;show _∧_;refine ⟨by omega,(s5 om hinv hns),?_⟩;exact iL [(54,1),(2,2)] [((54,1),.live _),((2,2),.live _)] ⟨aP rfl rfl,aP (o:=⟨(Lb d k a c s e),124,1⟩) rfl rfl,trivial⟩
 have eb:=of_decide_eq_false hc0;have hO:=Iz om hinv;refine cu (aj (mS ?_));refine mS ?_;refine mV ?_;refine rU (upd (upd none_ 6 (.sl 1 0 ((az a c d ⟨s,e,[]⟩ k).ns.length))) 7 (.b true)) (Dt a c d s e k) ?_;refine cy _ (d8 rfl (fun _ h=>h) (dy 7 (.b true) (cj (av:=.b true)) (dy 6 (.q eN ((az a c d ⟨s,e,[]⟩ k).ns)) (fv (id:=1) (n:=(az a c d ⟨s,e,[]⟩ k).ns.length) (o:=⟨(enc eN ((az a c d ⟨s,e,[]⟩ k).ns)),95,2⟩) rfl (YW (fun _=>rfl) (by first|rfl|(simp;done)))) d9))) ?_;exact aV (bq (av:=.bw [.q eN ((az a c d ⟨s,e,[]⟩ k).ns),.v (.bool true)]) rfl rfl (by rw [(sY hO).1,(sY hO).2]))
abbrev Dv:List AV:=[.ro 0 [],.v (.bool false)]
abbrev Dw (c:List ax) (d:List aH):List AV:=[.one,.q aI c,.one,.q aE d,.one,.one,.one,.one,.one,.one]
abbrev Dx (c:List ax) (d:List aH) (a:List Int) (j:Nat):AV:=(.q eN (jb c d (a.getD 0 0) (j:Int) (a.drop 1)))
abbrev uw (c:List ax) (d:List aH) (a:List Int):Nat→AV:=(upd (upd (upd (upd none_ 0 (.rp (Dw c d))) 1 (.q eI a)) 4 vN) 5 (.b false))
abbrev Ld (c:List ax) (d:List aH) (a:List Int) (k:Nat):Nat→AV:=(upd (upd (upd (upd (upd (uw c d a) 6 (.i (k:Int))) 7 (.i (a.getD k 0))) 14 (.q eI a)) 15 (.i (a.length:Int))) 16 (.i (k:Int)))
theorem tf (c:List ax) (d:List aH) (a:List Int) (hs:c.length≤65536) (hp:d.length≤65536) (hpl:a.length≤65536):Fn Tryz.prog 44 [.rp [.one,.q aI c,.one,.q aE d,.one,.one,.one,.one,.one,.one],.q eI a] (.bw [.q eN (bz c d a),.v (.bool (gC c d a))]):=by
 refine cf (N:=45) Tryz.func44 rfl rfl (iY rfl) (by simp) (fun w0 X bJ=>?_);refine aj (mV ?_);refine mV ?_;refine ak (aB (aj (mO ?_)));refine oG (qN cG ?_);refine bB ?_;refine rU (upd (uw c d a) 13 (.b (decide ((a.length:Int)<2)))) aG ?_;refine cD (fun hc0=>?_) fun hc0=>?_
 ·skip;have hf1:=of_decide_eq_true hc0;have hp2:=vJ (secs:=c) (pts:=d) (path:=a) om;refine aj (mV ?_);refine mV ?_;refine ak (cy _ (d8 rfl (fun _ h=>h) (dy 5 (.b false) (cj (av:=.b false)) (dy 4 (.ro 0 []) .nil d9))) ?_);exact aV (bq (av:=.bw Dv) rfl rfl (by rw [hp2.1,hp2.2];rfl))
 have hf2:=of_decide_eq_false hc0;have hp2:¬a.length<2:=by omega
 refine aR (aB (aj (mO ?_)));refine oG (qN cG ?_);refine mV ?_;refine ak (bf (cF (fun k=>⟨(upd (upd (upd (uw c d a) 14 (.q eI a)) 15 (.i (a.length:Int))) 16 (.i (k:Int))),aG⟩) (fun k=>(a.take k).Nodup) (a.length) ?_ (by simp) (fun k dq hinv=>?_)))
 ·skip;exact iN
 refine aj (bB ?_);refine ak (aB (cD (fun hc1=>?_) fun hc1=>?_))
 ·skip;have hf3:=of_decide_eq_true hc1;refine aR (aB (bf (aj (mV ?_))));refine oG (qX (0:Int) cG bC ?_);refine oV Y0 ?_;refine mV ?_;refine mV ?_;refine rU (Ld c d a k) aG ?_;refine aj (mO ?_);refine mV ?_;refine oG (lG (l:=0) (hgh:=k) (cells':=enc eI (a.take k)) ((a.take k)).length rfl rfl rfl cG bC rfl rfl ⟨_,rfl⟩ om oo (pN (f:=eI) (fun _=>rfl) _ 0 _) (by simp;omega) ?_);refine mV ?_;refine oG (qJ (Dq (a.take k) (a.getD k 0) oo) Cb ?_);refine rU (upd (Ld c d a k) 25 (.b (decide ((a.getD k 0)∈(a.take k))))) aG ?_;refine cD (fun hc2=>?_) fun hc2=>?_
  ·skip;have ZH:=IA (secs:=c) (pts:=d) (P9 (path:=a) (k:=k) om (of_decide_eq_true hc2));refine aj (mV ?_);refine mV ?_;refine ak (cy _ (d8 rfl (fun _ h=>h) (dy 5 (.b false) (cj (av:=.b false)) (dy 4 (.ro 0 []) .nil d9))) ?_);exact aV (bq (av:=.bw Dv) rfl rfl (by rw [ZH.1,ZH.2];rfl))
  have hnm:¬a.getD k 0∈a.take k:=of_decide_eq_false hc2;refine aR (bm (oG (qB (.int .i64 ((k+1:Nat):Int)) (addN om) ?_)));refine mV ?_;refine ak ?_;show _∧_;refine ⟨by omega,(O2 om hinv hnm),?_⟩;exact iN
 have eb:=of_decide_eq_false hc1;have hnd:a.Nodup:=by rw [List.take_of_length_le om] at hinv;exact hinv
 refine cu (aB (aj (mV ?_)));refine ak (bf (cF (fun j=>⟨(upd (uw c d a) 27 (.i (j:Int))),aG⟩) (fun j=>∀kx,kx<j→g5 c d (a.getD 0 0) (kx:Int) (a.drop 1)=false) (2) ?_ (fun _ h=>by omega) (fun j lr hinv=>?_)))
 ·skip;exact iN
 refine aj (bB ?_);refine ak (aB (cD (fun hc3=>?_) fun hc3=>?_))
 ·skip;have g0:=of_decide_eq_true hc3;refine aR (aB (bf (aj (mV ?_))));refine mV ?_;refine ak (aB (aD 13 [(9,.q eN (jb c d (a.getD 0 0) (j:Int) (a.drop 1))),(41,.b (g5 c d (a.getD 0 0) (j:Int) (a.drop 1))),(40,.q eN (jb c d (a.getD 0 0) (j:Int) (a.drop 1))),(30,.bw [.q eN (jb c d (a.getD 0 0) (j:Int) (a.drop 1)),.b (g5 c d (a.getD 0 0) (j:Int) (a.drop 1))]),(39,.bw [.q eN (jb c d (a.getD 0 0) (j:Int) (a.drop 1)),.b (g5 c d (a.getD 0 0) (j:Int) (a.drop 1))]),(38,.q eI (a.drop 1)),(37,.q eI a),(36,.agg [.i (a.getD 0 0),.i (j:Int)]),(35,.i (j:Int)),(34,.i (a.getD 0 0)),(33,.rp (([.i (a.getD 0 0)]:List AV)++((enc eI a).drop ((0+1)*1)))),(32,.q eI a),(31,.rp (Dw c d))] mixed ?_ ?_))
  ·iterate 13 (refine ⟨?_,?_⟩;rotate_left)
   trivial
   ·exact aM
   ·exact aM
   ·exact dW 33 fun st ap hE=>kD (k:=0) 0 rfl rfl rfl cG bC (hE 32 rfl) rfl (fun _=>rfl) rfl oo (by rw [ap];rfl)
   ·exact (cN Y0)
   ·exact aM
   ·exact dW 36 fun st ap hE=>kb rfl rfl rfl lj (by simp only [eY,List.map,aU,hE 34 rfl,hE 35 rfl];rfl) (by rw [ap];rfl)
   ·exact aM
   ·exact dW 38 fun st ap hE=>lG (l:=1) (hgh:=a.length) (cells':=enc eI (a.drop 1)) ((a.drop 1)).length rfl rfl rfl cG bC (hE 37 rfl) ⟨_,rfl⟩ rfl oo oo (pI (f:=eI) (fun _=>rfl) _ _ _ rfl) q8 (by rw [ap];rfl)
   ·exact dW 39 fun st ap hE=>call_ (Uc c d (a.getD 0 0) (j:Int) (a.drop 1) oo oo oo) rfl rfl rfl rfl rfl VQ (by show [st.env 31,st.env 36,st.env 38]++_=_;rw [hE 31 rfl,hE 36 rfl,hE 38 rfl];rfl) (by rw [ap];rfl)
   ·exact aM
   ·exact fL
   ·exact fL
   exact aM
  refine mV ?_;refine ak (rT (upd (upd (upd (upd (uw c d a) 8 (.i (j:Int))) 9 (Dx c d a j)) 10 (.b (g5 c d (a.getD 0 0) (j:Int) (a.drop 1)))) 27 (.i (j:Int))) aG ?_);refine aj (mV ?_);refine ak (cD (fun hc4=>?_) fun hc4=>?_)
  ·skip;have hpa:=Jg hp2 hnd om hinv hc4;refine aj (mO ?_);refine mO ?_;refine mV ?_;refine rU (upd (upd (upd (upd (upd (upd (upd (upd none_ 0 (.rp (Dw c d))) 1 (.q eI a)) 4 (Dx c d a j)) 5 (.b true)) 8 (.i (j:Int))) 9 (Dx c d a j)) 10 (.b (g5 c d (a.getD 0 0) (j:Int) (a.drop 1)))) 27 (.i (j:Int))) aG ?_;exact aV (bq (av:=.bw [.q eN (jb c d (a.getD 0 0) (j:Int) (a.drop 1)),.v (.bool true)]) rfl rfl (by rw [hpa.1,hpa.2]))
  refine aR (bm (oG (qB (.int .i64 ((j+1:Nat):Int)) (addN om) ?_)));refine mV ?_;refine ak ?_;show _∧_;refine ⟨by omega,(fun kx h=>by rcases Nat.lt_or_ge kx j with h2|h2;exact hinv kx h2;rw [show kx=j by omega];exact hc4),?_⟩;exact iN
 have fB:=of_decide_eq_false hc3;have hpe:=IB (secs:=c) (pts:=d) hp2 hnd om hinv;refine cu (aj (mV ?_));refine mV ?_;refine ak (cy _ (d8 rfl (fun _ h=>h) (dy 5 (.b false) (cj (av:=.b false)) (dy 4 (.ro 0 []) .nil d9))) ?_);exact aV (bq (av:=.bw Dv) rfl rfl (by rw [hpe.1,hpe.2];rfl))
abbrev Lf (c:List ax) (a:List aH) (d:List Int) (s e:Int) (k:Nat):AV:=(.bw [.i (aF c ((az c a d ⟨s,e,[]⟩ k).s) ((az c a d ⟨s,e,[]⟩ k).e)),.b (!eD c ((az c a d ⟨s,e,[]⟩ k).s) ((az c a d ⟨s,e,[]⟩ k).e))])
abbrev xT (c:List ax) (a:List aH) (d:List Int) (s e:Int) (k:Nat):List AV:=[.i ((az c a d ⟨s,e,[]⟩ k).s),.i ((az c a d ⟨s,e,[]⟩ k).e)]
abbrev Lg (a:List aH) (c:List ax) (d:List Int) (s e:Int) (k:Nat):AV:=(.rp (([.i ((a.getD (aX a (aF c ((az c a d ⟨s,e,[]⟩ k).s) ((az c a d ⟨s,e,[]⟩ k).e))).toNat dP).right)]:List AV)++((enc aE a).drop (((aX a (aF c ((az c a d ⟨s,e,[]⟩ k).s) ((az c a d ⟨s,e,[]⟩ k).e))).toNat+1)*4))))
abbrev Dy (c:List ax) (a:List aH) (d:List Int) (s e:Int) (k:Nat):AV:=(.q bH (bo c a ((az c a d ⟨s,e,[]⟩ k).s) ((az c a d ⟨s,e,[]⟩ k).e)))
abbrev Dz (d:List Int):Nat→AV:=(upd (upd (upd (upd (upd none_ 2 (.q eI d)) 3 (.pt 2 0)) 4 (.pt 3 0)) 6 vN) 7 (.b false))
abbrev qw (c:List ax) (a:List aH):List AV:=[.one,.q aI c,.one,.q aE a,.one,.one,.one,.one,.one,.one]
abbrev Lh (a:List aH) (c:List ax) (d:List Int) (s e:Int) (k:Nat):AV:=(.rp (([.i ((a.getD (aX a (aF c ((az c a d ⟨s,e,[]⟩ k).s) ((az c a d ⟨s,e,[]⟩ k).e))).toNat dP).stem),.i ((a.getD (aX a (aF c ((az c a d ⟨s,e,[]⟩ k).s) ((az c a d ⟨s,e,[]⟩ k).e))).toNat dP).left),.i ((a.getD (aX a (aF c ((az c a d ⟨s,e,[]⟩ k).s) ((az c a d ⟨s,e,[]⟩ k).e))).toNat dP).right)]:List AV)++((enc aE a).drop (((aX a (aF c ((az c a d ⟨s,e,[]⟩ k).s) ((az c a d ⟨s,e,[]⟩ k).e))).toNat+1)*4))))
abbrev uy (c:List ax) (a:List aH) (d:List Int) (s e:Int) (k j:Nat):List AV:=[.i (((bo c a ((az c a d ⟨s,e,[]⟩ k).s) ((az c a d ⟨s,e,[]⟩ k).e)).getD j dE).en)]
abbrev o9 (d:List Int) (k:Nat) (c:List ax) (a:List aH) (s e:Int) (j:Nat):List AV:=[.i (d.getD k 0),.i (1-(((bo c a ((az c a d ⟨s,e,[]⟩ k).s) ((az c a d ⟨s,e,[]⟩ k).e)).getD j dE).en))]
abbrev lY (c:List ax) (a:List aH) (d:List Int) (s e:Int) (k:Nat):List AV:=(enc bH (bo c a ((az c a d ⟨s,e,[]⟩ k).s) ((az c a d ⟨s,e,[]⟩ k).e)))
abbrev xU (a:List aH) (c:List ax) (d:List Int) (s e:Int) (k:Nat):AV:=(.rp (([.i ((a.getD (aX a (aF c ((az c a d ⟨s,e,[]⟩ k).s) ((az c a d ⟨s,e,[]⟩ k).e))).toNat dP).node),.i ((a.getD (aX a (aF c ((az c a d ⟨s,e,[]⟩ k).s) ((az c a d ⟨s,e,[]⟩ k).e))).toNat dP).stem),.i ((a.getD (aX a (aF c ((az c a d ⟨s,e,[]⟩ k).s) ((az c a d ⟨s,e,[]⟩ k).e))).toNat dP).left),.i ((a.getD (aX a (aF c ((az c a d ⟨s,e,[]⟩ k).s) ((az c a d ⟨s,e,[]⟩ k).e))).toNat dP).right)]:List AV)++((enc aE a).drop (((aX a (aF c ((az c a d ⟨s,e,[]⟩ k).s) ((az c a d ⟨s,e,[]⟩ k).e))).toNat+1)*4))))
abbrev qx (c:List ax) (a:List aH) (d:List Int) (s e:Int) (k j:Nat):List AV:=[.i (((bo c a ((az c a d ⟨s,e,[]⟩ k).s) ((az c a d ⟨s,e,[]⟩ k).e)).getD j dE).sec),.i (((bo c a ((az c a d ⟨s,e,[]⟩ k).s) ((az c a d ⟨s,e,[]⟩ k).e)).getD j dE).en)]
abbrev ju (c:List ax) (a:List aH) (d:List Int) (s e:Int) (k:Nat):Nat→aK:=(ah (ah (ah aG 1 (.live ⟨(enc eN ((az c a d ⟨s,e,[]⟩ k).ns)),135,2⟩)) 2 (.live ⟨(qw c a),35,1⟩)) 3 (.live ⟨(xT c a d s e k),124,1⟩))
abbrev DC (d:List Int) (c:List ax) (a:List aH) (s e:Int) (k:Nat):Nat→AV:=(upd (upd (Dz d) 8 (.sl 1 0 ((az c a d ⟨s,e,[]⟩ k).ns.length))) 9 (.i (k:Int)))
abbrev xV (c:List ax) (a:List aH) (d:List Int) (s e:Int) (k j:Nat):AV:=(.rp (((uy c a d s e k j):List AV)++((lY c a d s e k).drop ((j+1)*2))))
abbrev sa (c:List ax) (a:List aH) (d:List Int) (s e:Int) (k j:Nat):AV:=(.rp (((qx c a d s e k j):List AV)++((lY c a d s e k).drop ((j+1)*2))))
abbrev xW (d:List Int) (c:List ax) (a:List aH) (s e:Int) (k:Nat):Nat→AV:=(upd (DC d c a s e k) 10 (Dy c a d s e k))
abbrev Li (d:List Int) (c:List ax) (a:List aH) (s e:Int) (k j:Nat):Nat→AV:=(upd (upd (xW d c a s e k) 11 (.i (j:Int))) 46 (.b ((j:Int)==((bo c a ((az c a d ⟨s,e,[]⟩ k).s) ((az c a d ⟨s,e,[]⟩ k).e)).length:Int))))
abbrev DD (d:List Int) (c:List ax) (a:List aH) (s e:Int) (k j:Nat):Nat→AV:=(upd (upd (xW d c a s e k) 11 (.i (j:Int))) 12 (.i (aF c ((az c a d ⟨s,e,[]⟩ k).s) ((az c a d ⟨s,e,[]⟩ k).e))))
abbrev qy (d:List Int) (c:List ax) (a:List aH) (s e:Int) (k j:Nat):Nat→AV:=(upd (DD d c a s e k j) 14 (.i (aX a (aF c ((az c a d ⟨s,e,[]⟩ k).s) ((az c a d ⟨s,e,[]⟩ k).e)))))
abbrev Lj (d:List Int) (c:List ax) (a:List aH) (s e:Int) (k j:Nat):Nat→AV:=(upd (upd (qy d c a s e k j) 15 (.i (d.getD k 0))) 69 (.b ((d.getD k 0)==((a.getD (aX a (aF c ((az c a d ⟨s,e,[]⟩ k).s) ((az c a d ⟨s,e,[]⟩ k).e))).toNat dP).stem))))
theorem Rh (c:List ax) (a:List aH) (s e:Int) (d:List Int) (hs:c.length≤65536) (hp:a.length≤65536) (hpl:d.length≤65536):Fn Tryz.prog 92 [.agg [.one,.q aI c,.one,.q aE a,.one,.one,.one,.one,.one,.one],.agg [.v (.int .i64 s),.v (.int .i64 e)],.q eI d] (.bw [.q eN (jb c a s e d),.v (.bool (g5 c a s e d))]):=by
 refine cf (N:=97) Tryz.func92 rfl rfl (iY rfl) (by simp) (fun w0 X bJ=>?_);refine aj (oG (qW 51 ?_));refine oG (qW 52 ?_);refine mV ?_;refine mV ?_;refine rU (upd (upd (upd (upd (upd none_ 2 (.q eI d)) 3 (.pt 51 0)) 4 (.pt 52 0)) 6 vN) 7 (.b false)) (ah (ah aG 51 (.live ⟨(qw c a),35,1⟩)) 52 (.live ⟨[.i s,.i e],124,1⟩)) ?_;refine aj (mV ?_);refine ak (aB (aj (mV ?_)));refine ak (bf (cF (fun k=>⟨(DC d c a s e k),(ju c a d s e k)⟩) (fun k=>js c a (d.drop k) (az c a d ⟨s,e,[]⟩ k)=jt c a s e d) (d.length) ?_ rfl (fun k dq hinv=>?_)))
 ·skip;refine (iz 8 53 135 2 rfl rfl).trans ?_;exact iL [(53,1),(51,2),(52,3)] [((53,1),.live _),((51,2),.live _),((52,3),.live _)] ⟨aP (o:=⟨[],135,2⟩) rfl rfl,aP rfl rfl,aP rfl rfl,trivial⟩
 have hwl:=Aw (secs:=c) (pts:=a) (path:=d) ⟨s,e,[]⟩ rfl k;have hal:=zw c a (az c a d ⟨s,e,[]⟩ k).s (az c a d ⟨s,e,[]⟩ k).e;have hW:=hinv;refine aB (aj (mV ?_));refine mO ?_;refine oG (qN cG ?_);refine bB ?_;refine rU (upd (DC d c a s e k) 19 (.b (decide ((k:Int)<(d.length:Int))))) (ju c a d s e k) ?_;refine cD (fun hc0=>?_) fun hc0=>?_
 ·skip;have hf1:=of_decide_eq_true hc0;refine aR (aB (bf (aj (oG (ZI (qw c a) du cC ?_)))));refine oG (ZI (xT c a d s e k) im dT ?_);refine oG (qJ (F2 c a ((az c a d ⟨s,e,[]⟩ k).s) ((az c a d ⟨s,e,[]⟩ k).e) oo oo) JN ?_);refine mO ?_;refine rU (xW d c a s e k) (ju c a d s e k) ?_;refine aj (mV ?_);refine ak (aB (bf (cF (fun j=>⟨(upd (xW d c a s e k) 11 (.i (j:Int))),(ju c a d s e k)⟩) (fun j=>((bo c a (az c a d ⟨s,e,[]⟩ k).s (az c a d ⟨s,e,[]⟩ k).e).take j).any (fun x:En=>decide (x.sec=(d.getD k 0)))=false) ((bo c a (az c a d ⟨s,e,[]⟩ k).s (az c a d ⟨s,e,[]⟩ k).e).length) ?_ (by simp) (fun j lr hinv=>?_))))
  ·skip;exact iL [(1,1),(2,2),(3,3)] [((1,1),.live _),((2,2),.live _),((3,3),.live _)] ⟨aP rfl rfl,aP rfl rfl,aP rfl rfl,trivial⟩
  refine aB (aB ((Bool.eq_false_or_eq_true (decide ((j:Int)<((bo c a ((az c a d ⟨s,e,[]⟩ k).s) ((az c a d ⟨s,e,[]⟩ k).e)).length:Int)))).elim (fun hg2=>?_) (fun hg2=>?_)))
  ·skip;have hf3:=of_decide_eq_true hg2;refine aD 16 [(40,.b ((((bo c a ((az c a d ⟨s,e,[]⟩ k).s) ((az c a d ⟨s,e,[]⟩ k).e)).getD j dE).sec) != (d.getD k 0))),(39,.b ((((bo c a ((az c a d ⟨s,e,[]⟩ k).s) ((az c a d ⟨s,e,[]⟩ k).e)).getD j dE).sec) != (d.getD k 0))),(38,.i (d.getD k 0)),(37,.rp (([.i (d.getD k 0)]:List AV)++((enc eI d).drop ((k+1)*1)))),(36,.i (k:Int)),(35,.q eI d),(34,.i (((bo c a ((az c a d ⟨s,e,[]⟩ k).s) ((az c a d ⟨s,e,[]⟩ k).e)).getD j dE).sec)),(33,.rp (((qx c a d s e k j):List AV)++((lY c a d s e k).drop ((j+1)*2)))),(32,.rp (((qx c a d s e k j):List AV)++((lY c a d s e k).drop ((j+1)*2)))),(31,.i (j:Int)),(30,.q bH (bo c a ((az c a d ⟨s,e,[]⟩ k).s) ((az c a d ⟨s,e,[]⟩ k).e))),(29,.b (decide ((j:Int)<((bo c a ((az c a d ⟨s,e,[]⟩ k).s) ((az c a d ⟨s,e,[]⟩ k).e)).length:Int)))),(28,.b (decide ((j:Int)<((bo c a ((az c a d ⟨s,e,[]⟩ k).s) ((az c a d ⟨s,e,[]⟩ k).e)).length:Int)))),(27,.i ((bo c a ((az c a d ⟨s,e,[]⟩ k).s) ((az c a d ⟨s,e,[]⟩ k).e)).length:Int)),(26,.q bH (bo c a ((az c a d ⟨s,e,[]⟩ k).s) ((az c a d ⟨s,e,[]⟩ k).e))),(25,.i (j:Int))] mixed ?_ ?_
   ·iterate 16 (refine ⟨?_,?_⟩;rotate_left)
    trivial
    ·exact aM
    ·exact aM
    ·exact dW 27 fun st ap hE=>d_ rfl rfl rfl rfl dF (lJ (hE 26 rfl)) (by rw [ap];rfl)
    ·exact sB (.bool (decide ((j:Int)<((bo c a ((az c a d ⟨s,e,[]⟩ k).s) ((az c a d ⟨s,e,[]⟩ k).e)).length:Int)))) rfl
    ·exact aM
    ·exact dM hg2 aM
    ·exact dM hg2 aM
    ·exact dM hg2 (d4 dE dF dT)
    ·exact dM hg2 (sF (sa c a d s e k j) (sa c a d s e k j) ZL bC)
    ·exact dM hg2 (cN Y0)
    ·exact dM hg2 aM
    ·exact dM hg2 aM
    ·exact dM hg2 (d4 (0:Int) cG bC)
    ·exact dM hg2 (cN Y0)
    ·exact dM hg2 (sB (.bool ((((bo c a ((az c a d ⟨s,e,[]⟩ k).s) ((az c a d ⟨s,e,[]⟩ k).e)).getD j dE).sec) != (d.getD k 0))) rfl)
    exact dW 40 fun st ap hE=>fJ (b:=(decide ((j:Int)<((bo c a ((az c a d ⟨s,e,[]⟩ k).s) ((az c a d ⟨s,e,[]⟩ k).e)).length:Int)))) (av:=.b ((((bo c a ((az c a d ⟨s,e,[]⟩ k).s) ((az c a d ⟨s,e,[]⟩ k).e)).getD j dE).sec) != (d.getD k 0))) rfl rfl rfl (hE 29 rfl) (by rw [hg2];exact hE 39 rfl) (by rw [ap];rfl)
   refine ak (cD (fun hc1=>?_) fun hc1=>?_)
   ·skip;have eb:=(bne_iff_ne).1 hc1;refine aR (bf (bm (mV ?_)));refine oG (qB (.int .i64 ((j+1:Nat):Int)) (addN om) ?_);refine mV ?_;refine ak ?_;show _∧_;refine ⟨by omega,(gT dE om hinv (by simpa using hc1)),?_⟩;exact iL [(1,1),(2,2),(3,3)] [((1,1),.live _),((2,2),.live _),((3,3),.live _)] ⟨aP rfl rfl,aP rfl rfl,aP rfl rfl,trivial⟩
   have g0:=(bne_eq_false_iff_eq).1 hc1;refine cu (aB (aj (mV ?_)));refine mO ?_;refine oG (qN dF ?_);refine bB ?_;refine rU (Li d c a s e k j) (ju c a d s e k) ?_;refine cD (fun hc2=>?_) fun hc2=>?_
   ·skip;have fB:=(beq_iff_eq).1 hc2;have hlt:(dZ c a (az c a d ⟨s,e,[]⟩ k).s (az c a d ⟨s,e,[]⟩ k).e (d.getD k 0))<0:=by have h_:=iK (f:=fun x:En=>decide (x.sec=(d.getD k 0))) (show (bo c a (az c a d ⟨s,e,[]⟩ k).s (az c a d ⟨s,e,[]⟩ k).e).length≤j by omega) hinv;unfold dZ;omega
    have hO:=Ax om hW hlt;refine aj (mV ?_);refine mV ?_;refine ak (cy _ (d8 rfl (fun _ h=>h) (dy 7 (.b false) (cj (av:=.b false)) (dy 6 (.ro 0 []) .nil d9))) ?_);exact aV (bq (av:=.bw [.ro 0 [],.v (.bool false)]) rfl rfl (by rw [(oD hO).1,(oD hO).2];rfl))
   have gl:=(beq_eq_false_iff_ne).1 hc2;have hix:(dZ c a (az c a d ⟨s,e,[]⟩ k).s (az c a d ⟨s,e,[]⟩ k).e (d.getD k 0))=(j:Int):=by first|(unfold dZ;exact hJ dE om hinv (by simpa using hc1))|(exfalso;omega)
   have hns:¬(dZ c a (az c a d ⟨s,e,[]⟩ k).s (az c a d ⟨s,e,[]⟩ k).e (d.getD k 0))<0:=by omega
   have hxo:=td (secs:=c) (pts:=a) (p:=(d.getD k 0)) (w:=(az c a d ⟨s,e,[]⟩ k)) hns;have DF:(dZ c a (az c a d ⟨s,e,[]⟩ k).s (az c a d ⟨s,e,[]⟩ k).e (d.getD k 0)).toNat=j:=by rw [hix];rfl
   have qz:iH c a (d.getD k 0) (az c a d ⟨s,e,[]⟩ k)=(bo c a (az c a d ⟨s,e,[]⟩ k).s (az c a d ⟨s,e,[]⟩ k).e).getD j dE:=by unfold iH;rw [DF]
   have tW:=hxo.2.1;have hx1:((bo c a (az c a d ⟨s,e,[]⟩ k).s (az c a d ⟨s,e,[]⟩ k).e).getD j dE).en=0∨((bo c a (az c a d ⟨s,e,[]⟩ k).s (az c a d ⟨s,e,[]⟩ k).e).getD j dE).en=1:=by rw [←qz];exact hxo.1
   have hx3:j<(bo c a (az c a d ⟨s,e,[]⟩ k).s (az c a d ⟨s,e,[]⟩ k).e).length:=by have:=hxo.2.2;omega
   have fT:=q_ a (aF c (az c a d ⟨s,e,[]⟩ k).s (az c a d ⟨s,e,[]⟩ k).e);refine aR (aj (oG (ZI (qw c a) du cC ?_)));refine oG (ZI (xT c a d s e k) im dT ?_);refine oG (qC (z8 c ((az c a d ⟨s,e,[]⟩ k).s) ((az c a d ⟨s,e,[]⟩ k).e) oo) B1 ?_);refine mG (Lf c a d s e k) ?_;refine oG (qE ?_);refine oG (qE ?_);refine mV ?_;refine mV ?_;refine rU (DD d c a s e k j) (ju c a d s e k) ?_;refine aj (oG (ZI (qw c a) du cC ?_));refine mV ?_;refine oG (qC (zN a (aF c ((az c a d ⟨s,e,[]⟩ k).s) ((az c a d ⟨s,e,[]⟩ k).e)) oo) B3 ?_);refine mV ?_;refine rU (qy d c a s e k j) (ju c a d s e k) ?_;refine aB (aj (mV ?_));refine bB ?_;refine ak (cD (fun hc3=>?_) fun hc3=>?_)
   ·skip;have il:=of_decide_eq_true hc3;have hpi:¬(aX a (aF c (az c a d ⟨s,e,[]⟩ k).s (az c a d ⟨s,e,[]⟩ k).e))<0:=by omega
    refine aj (mO ?_);refine mV ?_;refine oG (qX (0:Int) cG bC ?_);refine oV Y0 ?_;refine mV ?_;refine rU (upd (qy d c a s e k j) 15 (.i (d.getD k 0))) (ju c a d s e k) ?_;refine aB (aj (mV ?_));refine fG (.pt 2 3) gU gb ?_;refine oO iw ?_;refine mV ?_;refine oG (YZ dP rfl rfl rfl gI jk rfl rfl (fun _=>rfl) rfl om oo ?_);refine oG (qF (xU a c d s e k) (Lh a c d s e k) mW bC ?_);refine oV Y0 ?_;refine bB ?_;refine rU (Lj d c a s e k j) (ju c a d s e k) ?_;refine jl ⟨(upd (qy d c a s e k j) 15 (.i (if (a.getD (aX a (aF c (az c a d ⟨s,e,[]⟩ k).s (az c a d ⟨s,e,[]⟩ k).e)).toNat dP).stem=(d.getD k 0) then (az c a d ⟨s,e,[]⟩ k).s else (d.getD k 0)))),(ju c a d s e k)⟩ (fun s h=>h) ?_ ?_
    ·skip;refine cD (fun hc4=>?_) fun hc4=>?_
     ·skip;have lz:=(beq_iff_eq).1 hc4;refine bm (fG (.pt 3 0) ZL bC ?_);refine oV Y0 ?_;refine mV ?_;refine ak ?_;show ck _ _ _;exact iL [(1,1),(2,2),(3,3)] [((1,1),.live _),((2,2),.live _),((3,3),.live _)] ⟨aP rfl rfl,aP rfl rfl,aP rfl rfl,trivial⟩ (he:=(sS (by exact congrArg (fun n_:Int=>AV.v (.int .i64 n_)) (by first|exact (if_pos (Eq.symm (by simpa using hc4))).symm|exact (if_neg (fun h_=>absurd h_.symm (by simpa using hc4))).symm)) (sS rfl (sS rfl (sS rfl (sS rfl (sS rfl (sM rfl (sS rfl (sS rfl (sM rfl (sM rfl (sS rfl bQ)))))))))))))
     have lM:=(beq_eq_false_iff_ne).1 hc4;refine aR ?_;show ck _ _ _;exact iL [(1,1),(2,2),(3,3)] [((1,1),.live _),((2,2),.live _),((3,3),.live _)] ⟨aP rfl rfl,aP rfl rfl,aP rfl rfl,trivial⟩ (he:=(sS (by exact congrArg (fun n_:Int=>AV.v (.int .i64 n_)) (by first|exact (if_pos (Eq.symm (by simpa using hc4))).symm|exact (if_neg (fun h_=>absurd h_.symm (by simpa using hc4))).symm)) (sS rfl (sS rfl (sS rfl (sS rfl (sS rfl (sM rfl (sS rfl (sS rfl (sM rfl (sM rfl (sS rfl bQ)))))))))))))
    refine bm (mS ?_);refine mV ?_;refine fG (.pt 2 3) gU gb ?_;refine oO iw ?_;refine mV ?_;refine oG (YZ dP rfl rfl rfl gI jk rfl rfl (fun _=>rfl) rfl om oo ?_);refine oG (qF (xU a c d s e k) (Lg a c d s e k) pM bC ?_);refine oV Y0 ?_;refine mV ?_;refine bB ?_;refine oG (qD Jf ?_);refine oG (Y8 rfl rfl rfl ig BA (by decide) (by decide) rfl rfl ?_);refine oG (hS (f:=eN) (l:=(az c a d ⟨s,e,[]⟩ k).ns) 54 (⟨aX a (aF c ((az c a d ⟨s,e,[]⟩ k).s) ((az c a d ⟨s,e,[]⟩ k).e)),(((a.getD (aX a (aF c ((az c a d ⟨s,e,[]⟩ k).s) ((az c a d ⟨s,e,[]⟩ k).e))).toNat dP).right)==(if (a.getD (aX a (aF c (az c a d ⟨s,e,[]⟩ k).s (az c a d ⟨s,e,[]⟩ k).e)).toNat dP).stem=(d.getD k 0) then (az c a d ⟨s,e,[]⟩ k).s else (d.getD k 0)))⟩:Need) rfl rfl rfl rfl ig Bz rfl (by decide) rfl rfl rfl rfl rfl rfl (fun _=>rfl) rfl rfl oo oo rfl ?_);refine mS ?_;refine ak (rT (upd (upd (upd (upd (upd (upd (upd (Dz d) 8 (.sl 54 0 ((((az c a d ⟨s,e,[]⟩ k).ns)++[(⟨aX a (aF c ((az c a d ⟨s,e,[]⟩ k).s) ((az c a d ⟨s,e,[]⟩ k).e)),(((a.getD (aX a (aF c ((az c a d ⟨s,e,[]⟩ k).s) ((az c a d ⟨s,e,[]⟩ k).e))).toNat dP).right)==(if (a.getD (aX a (aF c (az c a d ⟨s,e,[]⟩ k).s (az c a d ⟨s,e,[]⟩ k).e)).toNat dP).stem=(d.getD k 0) then (az c a d ⟨s,e,[]⟩ k).s else (d.getD k 0)))⟩:Need)]).length))) 9 (.i (k:Int))) 10 (Dy c a d s e k)) 11 (.i (j:Int))) 12 (.i (aF c ((az c a d ⟨s,e,[]⟩ k).s) ((az c a d ⟨s,e,[]⟩ k).e)))) 14 (.i (aX a (aF c ((az c a d ⟨s,e,[]⟩ k).s) ((az c a d ⟨s,e,[]⟩ k).e))))) 15 (.i (if (a.getD (aX a (aF c (az c a d ⟨s,e,[]⟩ k).s (az c a d ⟨s,e,[]⟩ k).e)).toNat dP).stem=(d.getD k 0) then (az c a d ⟨s,e,[]⟩ k).s else (d.getD k 0)))) (ah (ah (ju c a d s e k) 1 .dead) 54 (.live ⟨(enc eN (((az c a d ⟨s,e,[]⟩ k).ns)++[(⟨aX a (aF c ((az c a d ⟨s,e,[]⟩ k).s) ((az c a d ⟨s,e,[]⟩ k).e)),(((a.getD (aX a (aF c ((az c a d ⟨s,e,[]⟩ k).s) ((az c a d ⟨s,e,[]⟩ k).e))).toNat dP).right)==(if (a.getD (aX a (aF c (az c a d ⟨s,e,[]⟩ k).s (az c a d ⟨s,e,[]⟩ k).e)).toNat dP).stem=(d.getD k 0) then (az c a d ⟨s,e,[]⟩ k).s else (d.getD k 0)))⟩:Need)])),135,2⟩)) ?_);refine aD 11 [(95,.agg (o9 d k c a s e j)),(94,.i (1-(((bo c a ((az c a d ⟨s,e,[]⟩ k).s) ((az c a d ⟨s,e,[]⟩ k).e)).getD j dE).en))),(93,.i (((bo c a ((az c a d ⟨s,e,[]⟩ k).s) ((az c a d ⟨s,e,[]⟩ k).e)).getD j dE).en)),(92,.rp (((uy c a d s e k j):List AV)++((lY c a d s e k).drop ((j+1)*2)))),(91,.rp (((qx c a d s e k j):List AV)++((lY c a d s e k).drop ((j+1)*2)))),(90,.i (j:Int)),(89,.q bH (bo c a ((az c a d ⟨s,e,[]⟩ k).s) ((az c a d ⟨s,e,[]⟩ k).e))),(88,.i (d.getD k 0)),(87,.rp (([.i (d.getD k 0)]:List AV)++((enc eI d).drop ((k+1)*1)))),(86,.i (k:Int)),(85,.q eI d)] mixed ?_ ?_
    ·refine ⟨?_,?_,?_,?_,?_,?_,?_,?_,?_,?_,?_,trivial⟩
     ·exact aM
     ·exact aM
     ·exact (d4 (0:Int) cG bC)
     ·exact (cN Y0)
     ·exact aM
     ·exact aM
     ·exact (d4 dE dF dT)
     ·exact sF (sa c a d s e k j) (xV c a d s e k j) mf bC
     ·exact (cN Y0)
     ·exact sB (.int .i64 (1-(((bo c a ((az c a d ⟨s,e,[]⟩ k).s) ((az c a d ⟨s,e,[]⟩ k).e)).getD j dE).en))) (kM om)
     exact dW 95 fun st ap hE=>kb rfl rfl rfl lj (by simp only [eY,List.map,aU,hE 88 rfl,hE 94 rfl];rfl) (by rw [ap];rfl)
    refine oG (qS dT ?_);refine ak (bm (mV ?_));refine oG (qB (.int .i64 ((k+1:Nat):Int)) (addN om) ?_);refine mV ?_;refine ak ?_;show _∧_;have hrow:(az c a d ⟨s,e,[]⟩ (k+1)).ns=(az c a d ⟨s,e,[]⟩ k).ns++[(⟨(aX a (aF c (az c a d ⟨s,e,[]⟩ k).s (az c a d ⟨s,e,[]⟩ k).e)),((a.getD (aX a (aF c (az c a d ⟨s,e,[]⟩ k).s (az c a d ⟨s,e,[]⟩ k).e)).toNat dP).right==(if (a.getD (aX a (aF c (az c a d ⟨s,e,[]⟩ k).s (az c a d ⟨s,e,[]⟩ k).e)).toNat dP).stem=(d.getD k 0) then (az c a d ⟨s,e,[]⟩ k).s else (d.getD k 0)))⟩:Need)]:=by show (az c a d ⟨s,e,[]⟩ k).ns++fP c a (az c a d ⟨s,e,[]⟩ k).s (az c a d ⟨s,e,[]⟩ k).e (iH c a (d.getD k 0) (az c a d ⟨s,e,[]⟩ k)).sec=_;rw [tW,Ac hpi rfl rfl];rfl
    refine ⟨by omega,(s5 om hW hns),?_⟩;exact iL [(54,1),(2,2),(3,3)] [((54,1),.live _),((2,2),.live _),((3,3),.live _)] ⟨aP rfl (by exact congrArg (fun l_=>ay.mk (enc eN l_) 135 2) hrow),aP rfl rfl,aP (o:=⟨(o9 d k c a s e j),124,1⟩) rfl (congrArg (fun x_:En=>ay.mk [.i (d.getD k 0),.i (1-x_.en)] 124 1) qz),trivial⟩ (he:=(sS rfl (sM (by exact congrArg (AV.sl 1 0) (congrArg List.length hrow.symm)) (sS rfl (sS rfl (sM rfl (sM rfl (sS rfl bQ))))))))
   have kL:=of_decide_eq_false hc3;have hpi:(aX a (aF c (az c a d ⟨s,e,[]⟩ k).s (az c a d ⟨s,e,[]⟩ k).e))<0:=by omega
   refine aR (aD 11 [(95,.agg (o9 d k c a s e j)),(94,.i (1-(((bo c a ((az c a d ⟨s,e,[]⟩ k).s) ((az c a d ⟨s,e,[]⟩ k).e)).getD j dE).en))),(93,.i (((bo c a ((az c a d ⟨s,e,[]⟩ k).s) ((az c a d ⟨s,e,[]⟩ k).e)).getD j dE).en)),(92,.rp (((uy c a d s e k j):List AV)++((lY c a d s e k).drop ((j+1)*2)))),(91,.rp (((qx c a d s e k j):List AV)++((lY c a d s e k).drop ((j+1)*2)))),(90,.i (j:Int)),(89,.q bH (bo c a ((az c a d ⟨s,e,[]⟩ k).s) ((az c a d ⟨s,e,[]⟩ k).e))),(88,.i (d.getD k 0)),(87,.rp (([.i (d.getD k 0)]:List AV)++((enc eI d).drop ((k+1)*1)))),(86,.i (k:Int)),(85,.q eI d)] mixed ?_ ?_)
   ·refine ⟨?_,?_,?_,?_,?_,?_,?_,?_,?_,?_,?_,trivial⟩
    ·exact aM
    ·exact aM
    ·exact (d4 (0:Int) cG bC)
    ·exact (cN Y0)
    ·exact aM
    ·exact aM
    ·exact (d4 dE dF dT)
    ·exact sF (sa c a d s e k j) (xV c a d s e k j) mf bC
    ·exact (cN Y0)
    ·exact sB (.int .i64 (1-(((bo c a ((az c a d ⟨s,e,[]⟩ k).s) ((az c a d ⟨s,e,[]⟩ k).e)).getD j dE).en))) (kM om)
    exact dW 95 fun st ap hE=>kb rfl rfl rfl lj (by simp only [eY,List.map,aU,hE 88 rfl,hE 94 rfl];rfl) (by rw [ap];rfl)
   refine oG (qS dT ?_);refine ak (bm (mV ?_));refine oG (qB (.int .i64 ((k+1:Nat):Int)) (addN om) ?_);refine mV ?_;refine ak ?_;show _∧_;have hrow:(az c a d ⟨s,e,[]⟩ (k+1)).ns=(az c a d ⟨s,e,[]⟩ k).ns:=by show (az c a d ⟨s,e,[]⟩ k).ns++fP c a (az c a d ⟨s,e,[]⟩ k).s (az c a d ⟨s,e,[]⟩ k).e (iH c a (d.getD k 0) (az c a d ⟨s,e,[]⟩ k)).sec=_;rw [tW,Av hpi,List.append_nil]
   refine ⟨by omega,(s5 om hW hns),?_⟩;exact iL [(1,1),(2,2),(3,3)] [((1,1),.live _),((2,2),.live _),((3,3),.live _)] ⟨aP rfl (by exact congrArg (fun l_=>ay.mk (enc eN l_) 135 2) hrow),aP rfl rfl,aP (o:=⟨(o9 d k c a s e j),124,1⟩) rfl (congrArg (fun x_:En=>ay.mk [.i (d.getD k 0),.i (1-x_.en)] 124 1) qz),trivial⟩ (he:=(sS rfl (sM (by exact congrArg (AV.sl 1 0) (congrArg List.length hrow.symm)) (sS rfl (sS rfl (sM rfl (sM rfl (sS rfl bQ))))))))
  have kK:=of_decide_eq_false hg2;refine aD 16 [(40,.b false),(39,.v undef),(38,.v undef),(37,.v undef),(36,.v undef),(35,.v undef),(34,.v undef),(33,.v undef),(32,.v undef),(31,.v undef),(30,.v undef),(29,.b (decide ((j:Int)<((bo c a ((az c a d ⟨s,e,[]⟩ k).s) ((az c a d ⟨s,e,[]⟩ k).e)).length:Int)))),(28,.b (decide ((j:Int)<((bo c a ((az c a d ⟨s,e,[]⟩ k).s) ((az c a d ⟨s,e,[]⟩ k).e)).length:Int)))),(27,.i ((bo c a ((az c a d ⟨s,e,[]⟩ k).s) ((az c a d ⟨s,e,[]⟩ k).e)).length:Int)),(26,.q bH (bo c a ((az c a d ⟨s,e,[]⟩ k).s) ((az c a d ⟨s,e,[]⟩ k).e))),(25,.i (j:Int))] mixed ?_ ?_
  ·iterate 16 (refine ⟨?_,?_⟩;rotate_left)
   trivial
   ·exact aM
   ·exact aM
   ·exact dW 27 fun st ap hE=>d_ rfl rfl rfl rfl dF (lJ (hE 26 rfl)) (by rw [ap];rfl)
   ·exact sB (.bool (decide ((j:Int)<((bo c a ((az c a d ⟨s,e,[]⟩ k).s) ((az c a d ⟨s,e,[]⟩ k).e)).length:Int)))) rfl
   ·exact aM
   ·exact ef hg2
   ·exact ef hg2
   ·exact ef hg2
   ·exact ef hg2
   ·exact ef hg2
   ·exact ef hg2
   ·exact ef hg2
   ·exact ef hg2
   ·exact ef hg2
   ·exact ef hg2
   exact mH (decide ((j:Int)<((bo c a ((az c a d ⟨s,e,[]⟩ k).s) ((az c a d ⟨s,e,[]⟩ k).e)).length:Int))) (.b false) hg2
  refine ak (eh false rfl rfl (fun h=>by cases h) (fun _=>?_));refine cu (aB (aj (mV ?_)));refine mO ?_;refine oG (qN dF ?_);refine bB ?_;refine rU (Li d c a s e k j) (ju c a d s e k) ?_;refine cD (fun hc2=>?_) fun hc2=>?_
  ·skip;have lN:=(beq_iff_eq).1 hc2;have hlt:(dZ c a (az c a d ⟨s,e,[]⟩ k).s (az c a d ⟨s,e,[]⟩ k).e (d.getD k 0))<0:=by have h_:=iK (f:=fun x:En=>decide (x.sec=(d.getD k 0))) (show (bo c a (az c a d ⟨s,e,[]⟩ k).s (az c a d ⟨s,e,[]⟩ k).e).length≤j by omega) hinv;unfold dZ;omega
   have hO:=Ax om hW hlt;refine aj (mV ?_);refine mV ?_;refine ak (cy _ (d8 rfl (fun _ h=>h) (dy 7 (.b false) (cj (av:=.b false)) (dy 6 (.ro 0 []) .nil d9))) ?_);exact aV (bq (av:=.bw [.ro 0 [],.v (.bool false)]) rfl rfl (by rw [(oD hO).1,(oD hO).2];rfl))
  have lP:=(beq_eq_false_iff_ne).1 hc2;have hix:(dZ c a (az c a d ⟨s,e,[]⟩ k).s (az c a d ⟨s,e,[]⟩ k).e (d.getD k 0))=(j:Int):=by first|(unfold dZ;exact hJ dE om hinv (by simpa using hc1))|(exfalso;omega)
  have hns:¬(dZ c a (az c a d ⟨s,e,[]⟩ k).s (az c a d ⟨s,e,[]⟩ k).e (d.getD k 0))<0:=by omega
  have hxo:=td (secs:=c) (pts:=a) (p:=(d.getD k 0)) (w:=(az c a d ⟨s,e,[]⟩ k)) hns;have DF:(dZ c a (az c a d ⟨s,e,[]⟩ k).s (az c a d ⟨s,e,[]⟩ k).e (d.getD k 0)).toNat=j:=by rw [hix];rfl
  have qz:iH c a (d.getD k 0) (az c a d ⟨s,e,[]⟩ k)=(bo c a (az c a d ⟨s,e,[]⟩ k).s (az c a d ⟨s,e,[]⟩ k).e).getD j dE:=by unfold iH;rw [DF]
  have tW:=hxo.2.1;have hx1:((bo c a (az c a d ⟨s,e,[]⟩ k).s (az c a d ⟨s,e,[]⟩ k).e).getD j dE).en=0∨((bo c a (az c a d ⟨s,e,[]⟩ k).s (az c a d ⟨s,e,[]⟩ k).e).getD j dE).en=1:=by rw [←qz];exact hxo.1
  have hx3:j<(bo c a (az c a d ⟨s,e,[]⟩ k).s (az c a d ⟨s,e,[]⟩ k).e).length:=by have:=hxo.2.2;omega
  have fT:=q_ a (aF c (az c a d ⟨s,e,[]⟩ k).s (az c a d ⟨s,e,[]⟩ k).e);refine aR (aj (oG (ZI (qw c a) du cC ?_)));refine oG (ZI (xT c a d s e k) im dT ?_);refine oG (qC (z8 c ((az c a d ⟨s,e,[]⟩ k).s) ((az c a d ⟨s,e,[]⟩ k).e) oo) B1 ?_);refine mG (Lf c a d s e k) ?_;refine oG (qE ?_);refine oG (qE ?_);refine mV ?_;refine mV ?_;refine rU (DD d c a s e k j) (ju c a d s e k) ?_;refine aj (oG (ZI (qw c a) du cC ?_));refine mV ?_;refine oG (qC (zN a (aF c ((az c a d ⟨s,e,[]⟩ k).s) ((az c a d ⟨s,e,[]⟩ k).e)) oo) B3 ?_);refine mV ?_;refine rU (qy d c a s e k j) (ju c a d s e k) ?_;refine aB (aj (mV ?_));refine bB ?_;refine ak (cD (fun hc3=>?_) fun hc3=>?_)
  ·skip;have nS:=of_decide_eq_true hc3;have hpi:¬(aX a (aF c (az c a d ⟨s,e,[]⟩ k).s (az c a d ⟨s,e,[]⟩ k).e))<0:=by omega
   refine aj (mO ?_);refine mV ?_;refine oG (qX (0:Int) cG bC ?_);refine oV Y0 ?_;refine mV ?_;refine rU (upd (qy d c a s e k j) 15 (.i (d.getD k 0))) (ju c a d s e k) ?_;refine aB (aj (mV ?_));refine fG (.pt 2 3) gU gb ?_;refine oO iw ?_;refine mV ?_;refine oG (YZ dP rfl rfl rfl gI jk rfl rfl (fun _=>rfl) rfl om oo ?_);refine oG (qF (xU a c d s e k) (Lh a c d s e k) mW bC ?_);refine oV Y0 ?_;refine bB ?_;refine rU (Lj d c a s e k j) (ju c a d s e k) ?_;refine jl ⟨(upd (qy d c a s e k j) 15 (.i (if (a.getD (aX a (aF c (az c a d ⟨s,e,[]⟩ k).s (az c a d ⟨s,e,[]⟩ k).e)).toNat dP).stem=(d.getD k 0) then (az c a d ⟨s,e,[]⟩ k).s else (d.getD k 0)))),(ju c a d s e k)⟩ (fun s h=>h) ?_ ?_
   ·skip;refine cD (fun hc4=>?_) fun hc4=>?_
    ·skip;have oU:=(beq_iff_eq).1 hc4;refine bm (fG (.pt 3 0) ZL bC ?_);refine oV Y0 ?_;refine mV ?_;refine ak ?_;show ck _ _ _;exact iL [(1,1),(2,2),(3,3)] [((1,1),.live _),((2,2),.live _),((3,3),.live _)] ⟨aP rfl rfl,aP rfl rfl,aP rfl rfl,trivial⟩ (he:=(sS (by exact congrArg (fun n_:Int=>AV.v (.int .i64 n_)) (by first|exact (if_pos (Eq.symm (by simpa using hc4))).symm|exact (if_neg (fun h_=>absurd h_.symm (by simpa using hc4))).symm)) (sS rfl (sS rfl (sS rfl (sS rfl (sS rfl (sM rfl (sS rfl (sS rfl (sM rfl (sM rfl (sS rfl bQ)))))))))))))
    have ZW:=(beq_eq_false_iff_ne).1 hc4;refine aR ?_;show ck _ _ _;exact iL [(1,1),(2,2),(3,3)] [((1,1),.live _),((2,2),.live _),((3,3),.live _)] ⟨aP rfl rfl,aP rfl rfl,aP rfl rfl,trivial⟩ (he:=(sS (by exact congrArg (fun n_:Int=>AV.v (.int .i64 n_)) (by first|exact (if_pos (Eq.symm (by simpa using hc4))).symm|exact (if_neg (fun h_=>absurd h_.symm (by simpa using hc4))).symm)) (sS rfl (sS rfl (sS rfl (sS rfl (sS rfl (sM rfl (sS rfl (sS rfl (sM rfl (sM rfl (sS rfl bQ)))))))))))))
   refine bm (mS ?_);refine mV ?_;refine fG (.pt 2 3) gU gb ?_;refine oO iw ?_;refine mV ?_;refine oG (YZ dP rfl rfl rfl gI jk rfl rfl (fun _=>rfl) rfl om oo ?_);refine oG (qF (xU a c d s e k) (Lg a c d s e k) pM bC ?_);refine oV Y0 ?_;refine mV ?_;refine bB ?_;refine oG (qD Jf ?_);refine oG (Y8 rfl rfl rfl ig BA (by decide) (by decide) rfl rfl ?_);refine oG (hS (f:=eN) (l:=(az c a d ⟨s,e,[]⟩ k).ns) 55 (⟨aX a (aF c ((az c a d ⟨s,e,[]⟩ k).s) ((az c a d ⟨s,e,[]⟩ k).e)),(((a.getD (aX a (aF c ((az c a d ⟨s,e,[]⟩ k).s) ((az c a d ⟨s,e,[]⟩ k).e))).toNat dP).right)==(if (a.getD (aX a (aF c (az c a d ⟨s,e,[]⟩ k).s (az c a d ⟨s,e,[]⟩ k).e)).toNat dP).stem=(d.getD k 0) then (az c a d ⟨s,e,[]⟩ k).s else (d.getD k 0)))⟩:Need) rfl rfl rfl rfl ig Bz rfl (by decide) rfl rfl rfl rfl rfl rfl (fun _=>rfl) rfl rfl oo oo rfl ?_);refine mS ?_;refine ak (rT (upd (upd (upd (upd (upd (upd (upd (Dz d) 8 (.sl 55 0 ((((az c a d ⟨s,e,[]⟩ k).ns)++[(⟨aX a (aF c ((az c a d ⟨s,e,[]⟩ k).s) ((az c a d ⟨s,e,[]⟩ k).e)),(((a.getD (aX a (aF c ((az c a d ⟨s,e,[]⟩ k).s) ((az c a d ⟨s,e,[]⟩ k).e))).toNat dP).right)==(if (a.getD (aX a (aF c (az c a d ⟨s,e,[]⟩ k).s (az c a d ⟨s,e,[]⟩ k).e)).toNat dP).stem=(d.getD k 0) then (az c a d ⟨s,e,[]⟩ k).s else (d.getD k 0)))⟩:Need)]).length))) 9 (.i (k:Int))) 10 (Dy c a d s e k)) 11 (.i (j:Int))) 12 (.i (aF c ((az c a d ⟨s,e,[]⟩ k).s) ((az c a d ⟨s,e,[]⟩ k).e)))) 14 (.i (aX a (aF c ((az c a d ⟨s,e,[]⟩ k).s) ((az c a d ⟨s,e,[]⟩ k).e))))) 15 (.i (if (a.getD (aX a (aF c (az c a d ⟨s,e,[]⟩ k).s (az c a d ⟨s,e,[]⟩ k).e)).toNat dP).stem=(d.getD k 0) then (az c a d ⟨s,e,[]⟩ k).s else (d.getD k 0)))) (ah (ah (ju c a d s e k) 1 .dead) 55 (.live ⟨(enc eN (((az c a d ⟨s,e,[]⟩ k).ns)++[(⟨aX a (aF c ((az c a d ⟨s,e,[]⟩ k).s) ((az c a d ⟨s,e,[]⟩ k).e)),(((a.getD (aX a (aF c ((az c a d ⟨s,e,[]⟩ k).s) ((az c a d ⟨s,e,[]⟩ k).e))).toNat dP).right)==(if (a.getD (aX a (aF c (az c a d ⟨s,e,[]⟩ k).s (az c a d ⟨s,e,[]⟩ k).e)).toNat dP).stem=(d.getD k 0) then (az c a d ⟨s,e,[]⟩ k).s else (d.getD k 0)))⟩:Need)])),135,2⟩)) ?_);refine aD 11 [(95,.agg (o9 d k c a s e j)),(94,.i (1-(((bo c a ((az c a d ⟨s,e,[]⟩ k).s) ((az c a d ⟨s,e,[]⟩ k).e)).getD j dE).en))),(93,.i (((bo c a ((az c a d ⟨s,e,[]⟩ k).s) ((az c a d ⟨s,e,[]⟩ k).e)).getD j dE).en)),(92,.rp (((uy c a d s e k j):List AV)++((lY c a d s e k).drop ((j+1)*2)))),(91,.rp (((qx c a d s e k j):List AV)++((lY c a d s e k).drop ((j+1)*2)))),(90,.i (j:Int)),(89,.q bH (bo c a ((az c a d ⟨s,e,[]⟩ k).s) ((az c a d ⟨s,e,[]⟩ k).e))),(88,.i (d.getD k 0)),(87,.rp (([.i (d.getD k 0)]:List AV)++((enc eI d).drop ((k+1)*1)))),(86,.i (k:Int)),(85,.q eI d)] mixed ?_ ?_
   ·refine ⟨?_,?_,?_,?_,?_,?_,?_,?_,?_,?_,?_,trivial⟩
    ·exact aM
    ·exact aM
    ·exact (d4 (0:Int) cG bC)
    ·exact (cN Y0)
    ·exact aM
    ·exact aM
    ·exact (d4 dE dF dT)
    ·exact sF (sa c a d s e k j) (xV c a d s e k j) mf bC
    ·exact (cN Y0)
    ·exact sB (.int .i64 (1-(((bo c a ((az c a d ⟨s,e,[]⟩ k).s) ((az c a d ⟨s,e,[]⟩ k).e)).getD j dE).en))) (kM om)
    exact dW 95 fun st ap hE=>kb rfl rfl rfl lj (by simp only [eY,List.map,aU,hE 88 rfl,hE 94 rfl];rfl) (by rw [ap];rfl)
   refine oG (qS dT ?_);refine ak (bm (mV ?_));refine oG (qB (.int .i64 ((k+1:Nat):Int)) (addN om) ?_);refine mV ?_;refine ak ?_;show _∧_;have hrow:(az c a d ⟨s,e,[]⟩ (k+1)).ns=(az c a d ⟨s,e,[]⟩ k).ns++[(⟨(aX a (aF c (az c a d ⟨s,e,[]⟩ k).s (az c a d ⟨s,e,[]⟩ k).e)),((a.getD (aX a (aF c (az c a d ⟨s,e,[]⟩ k).s (az c a d ⟨s,e,[]⟩ k).e)).toNat dP).right==(if (a.getD (aX a (aF c (az c a d ⟨s,e,[]⟩ k).s (az c a d ⟨s,e,[]⟩ k).e)).toNat dP).stem=(d.getD k 0) then (az c a d ⟨s,e,[]⟩ k).s else (d.getD k 0)))⟩:Need)]:=by show (az c a d ⟨s,e,[]⟩ k).ns++fP c a (az c a d ⟨s,e,[]⟩ k).s (az c a d ⟨s,e,[]⟩ k).e (iH c a (d.getD k 0) (az c a d ⟨s,e,[]⟩ k)).sec=_;rw [tW,Ac hpi rfl rfl];rfl
   refine ⟨by omega,(s5 om hW hns),?_⟩;exact iL [(55,1),(2,2),(3,3)] [((55,1),.live _),((2,2),.live _),((3,3),.live _)] ⟨aP rfl (by exact congrArg (fun l_=>ay.mk (enc eN l_) 135 2) hrow),aP rfl rfl,aP (o:=⟨(o9 d k c a s e j),124,1⟩) rfl (congrArg (fun x_:En=>ay.mk [.i (d.getD k 0),.i (1-x_.en)] 124 1) qz),trivial⟩ (he:=(sS rfl (sM (by exact congrArg (AV.sl 1 0) (congrArg List.length hrow.symm)) (sS rfl (sS rfl (sM rfl (sM rfl (sS rfl bQ))))))))
  have mx:=of_decide_eq_false hc3;have hpi:(aX a (aF c (az c a d ⟨s,e,[]⟩ k).s (az c a d ⟨s,e,[]⟩ k).e))<0:=by omega
  refine aR (aD 11 [(95,.agg (o9 d k c a s e j)),(94,.i (1-(((bo c a ((az c a d ⟨s,e,[]⟩ k).s) ((az c a d ⟨s,e,[]⟩ k).e)).getD j dE).en))),(93,.i (((bo c a ((az c a d ⟨s,e,[]⟩ k).s) ((az c a d ⟨s,e,[]⟩ k).e)).getD j dE).en)),(92,.rp (((uy c a d s e k j):List AV)++((lY c a d s e k).drop ((j+1)*2)))),(91,.rp (((qx c a d s e k j):List AV)++((lY c a d s e k).drop ((j+1)*2)))),(90,.i (j:Int)),(89,.q bH (bo c a ((az c a d ⟨s,e,[]⟩ k).s) ((az c a d ⟨s,e,[]⟩ k).e))),(88,.i (d.getD k 0)),(87,.rp (([.i (d.getD k 0)]:List AV)++((enc eI d).drop ((k+1)*1)))),(86,.i (k:Int)),(85,.q eI d)] mixed ?_ ?_)
  ·refine ⟨?_,?_,?_,?_,?_,?_,?_,?_,?_,?_,?_,trivial⟩
   ·exact aM
   ·exact aM
   ·exact (d4 (0:Int) cG bC)
   ·exact (cN Y0)
   ·exact aM
   ·exact aM
   ·exact (d4 dE dF dT)
   ·exact sF (sa c a d s e k j) (xV c a d s e k j) mf bC
   ·exact (cN Y0)
   ·exact sB (.int .i64 (1-(((bo c a ((az c a d ⟨s,e,[]⟩ k).s) ((az c a d ⟨s,e,[]⟩ k).e)).getD j dE).en))) (kM om)
   exact dW 95 fun st ap hE=>kb rfl rfl rfl lj (by simp only [eY,List.map,aU,hE 88 rfl,hE 94 rfl];rfl) (by rw [ap];rfl)
  refine oG (qS dT ?_);refine ak (bm (mV ?_));refine oG (qB (.int .i64 ((k+1:Nat):Int)) (addN om) ?_);refine mV ?_;refine ak ?_;show _∧_;have hrow:(az c a d ⟨s,e,[]⟩ (k+1)).ns=(az c a d ⟨s,e,[]⟩ k).ns:=by show (az c a d ⟨s,e,[]⟩ k).ns++fP c a (az c a d ⟨s,e,[]⟩ k).s (az c a d ⟨s,e,[]⟩ k).e (iH c a (d.getD k 0) (az c a d ⟨s,e,[]⟩ k)).sec=_;rw [tW,Av hpi,List.append_nil]
  refine ⟨by omega,(s5 om hW hns),?_⟩;exact iL [(1,1),(2,2),(3,3)] [((1,1),.live _),((2,2),.live _),((3,3),.live _)] ⟨aP rfl (by exact congrArg (fun l_=>ay.mk (enc eN l_) 135 2) hrow),aP rfl rfl,aP (o:=⟨(o9 d k c a s e j),124,1⟩) rfl (congrArg (fun x_:En=>ay.mk [.i (d.getD k 0),.i (1-x_.en)] 124 1) qz),trivial⟩ (he:=(sS rfl (sM (by exact congrArg (AV.sl 1 0) (congrArg List.length hrow.symm)) (sS rfl (sS rfl (sM rfl (sM rfl (sS rfl bQ))))))))
 have nT:=of_decide_eq_false hc0;have hO:=Iz om hinv;refine cu (aj (mS ?_));refine mS ?_;refine mV ?_;refine ak (cy _ (d8 rfl (fun _ h=>h) (dy 7 (.b true) (cj (av:=.b true)) (dy 6 (.q eN ((az c a d ⟨s,e,[]⟩ k).ns)) (fv (id:=1) (n:=(az c a d ⟨s,e,[]⟩ k).ns.length) (o:=⟨(enc eN ((az c a d ⟨s,e,[]⟩ k).ns)),135,2⟩) rfl (YW (fun _=>rfl) (by first|rfl|(simp;done)))) d9))) ?_);exact aV (bq (av:=.bw [.q eN ((az c a d ⟨s,e,[]⟩ k).ns),.v (.bool true)]) rfl rfl (by first|(rw [(oD hO).1,(oD hO).2];rfl)|rw [(sY hO).1,(sY hO).2]))
abbrev Ll (a:List Int) (j:Nat):Nat→AV:=(upd (upd (upd (upd (upd none_ 1 (.q eI a)) 2 (.pt 1 0)) 4 vN) 5 (.b false)) 6 (.i (j:Int)))
abbrev sb (c:List ax) (d:List aH):List AV:=[.one,.q aI c,.one,.q aE d,.one,.one,.one,.one,.one,.one]
theorem Hc (c:List ax) (d:List aH) (a:List Int) (hs:c.length≤65536) (hp:d.length≤65536) (hpl:a.length≤65536):Fn Tryz.prog 62 [.agg [.one,.q aI c,.one,.q aE d,.one,.one,.one,.one,.one,.one],.q eI a] (.bw [.q eN (bz c d a),.v (.bool (gC c d a))]):=by
 refine cf (N:=38) Tryz.func62 rfl rfl (iY rfl) (by simp) (fun w0 X bJ=>?_);refine aj (oG (qW 51 ?_));refine mV ?_;refine mV ?_;refine ak (aB (aj (mO ?_)));refine oG (qN cG ?_);refine bB ?_;refine mV ?_;refine dA 7 19 (.b ((decide ((a.length:Int)<2))||(((kd a).length:Int) != (a.length:Int)))) ?_ ?_
 ·refine (Bool.eq_false_or_eq_true (decide ((a.length:Int)<2))).elim (fun hg1=>?_) (fun hg1=>?_)
  ·skip;have hf2:=of_decide_eq_true hg1;refine nG hg1 ?_;refine nG hg1 ?_;refine nG hg1 ?_;refine nG hg1 ?_;refine nG hg1 ?_;refine nG hg1 ?_;refine oG (qP (decide ((a.length:Int)<2)) (.b true) hg1 ?_);exact ak (bS (bR 19 _ _ (by rw [hg1]<;>rfl) lO))
  have hf3:=of_decide_eq_false hg1;refine oY hg1 (qM (.q eI a) ?_);refine oY hg1 (qJ (P8 a oo) VP ?_);refine oY hg1 (qN cG ?_);refine oY hg1 (qM (.q eI a) ?_);refine oY hg1 (qN cG ?_);refine oY hg1 (qB (.bool (((kd a).length:Int) != (a.length:Int))) rfl ?_);refine oG (qP (decide ((a.length:Int)<2)) (.b (((kd a).length:Int) != (a.length:Int))) hg1 ?_);exact ak (bS (bR 19 _ _ (by rw [hg1]<;>rfl) lO))
 refine ak (rT (upd (upd (upd (upd (upd none_ 1 (.q eI a)) 2 (.pt 51 0)) 4 vN) 5 (.b false)) 19 (.b ((decide ((a.length:Int)<2))||(((kd a).length:Int) != (a.length:Int))))) (ah aG 51 (.live ⟨(sb c d),35,1⟩)) ?_);refine cD (fun hc0=>?_) fun hc0=>?_
 ·skip;have hp2:=SP (secs:=c) (pts:=d) (path:=a) (by simpa using hc0);refine aj (mV ?_);refine mV ?_;refine ak (cy _ (d8 rfl (fun _ h=>h) (dy 5 (.b false) (cj (av:=.b false)) (dy 4 (.ro 0 []) .nil d9))) ?_);exact aV (bq (av:=.bw [.ro 0 [],.v (.bool false)]) rfl rfl (by rw [hp2.1,hp2.2];rfl))
 obtain ⟨mz,mA⟩:=gd hc0;have g0:=of_decide_eq_false mz;have fB:=(bne_eq_false_iff_eq).1 mA;obtain ⟨hp2,hnd⟩:=Ri (path:=a) (by simpa using hc0);refine aR (aB (aj (mV ?_)));refine ak (bf (cF (fun j=>⟨(Ll a j),(ah aG 1 (.live ⟨(sb c d),35,1⟩))⟩) (fun j=>∀kx,kx<j→g5 c d (a.getD 0 0) (kx:Int) (a.drop 1)=false) (2) ?_ (fun _ h=>by omega) (fun j lr hinv=>?_)))
 ·skip;exact iI 51 1 rfl
 refine aB (aj (mV ?_));refine bB ?_;refine ak (cD (fun hc1=>?_) fun hc1=>?_)
 ·skip;have gl:=of_decide_eq_true hc1;refine aR (aB (bf (aB (aD 13 [(7,.q eN (jb c d (a.getD 0 0) (j:Int) (a.drop 1))),(35,.b (g5 c d (a.getD 0 0) (j:Int) (a.drop 1))),(34,.q eN (jb c d (a.getD 0 0) (j:Int) (a.drop 1))),(24,.bw [.q eN (jb c d (a.getD 0 0) (j:Int) (a.drop 1)),.b (g5 c d (a.getD 0 0) (j:Int) (a.drop 1))]),(33,.bw [.q eN (jb c d (a.getD 0 0) (j:Int) (a.drop 1)),.b (g5 c d (a.getD 0 0) (j:Int) (a.drop 1))]),(32,.q eI (a.drop 1)),(31,.q eI a),(30,.agg [.i (a.getD 0 0),.i (j:Int)]),(29,.i (j:Int)),(28,.i (a.getD 0 0)),(27,.rp (([.i (a.getD 0 0)]:List AV)++((enc eI a).drop ((0+1)*1)))),(26,.q eI a),(25,.agg (sb c d))] mixed ?_ ?_))))
  ·iterate 13 (refine ⟨?_,?_⟩;rotate_left)
   trivial
   ·exact ed (sb c d) du cC
   ·exact aM
   ·exact dW 27 fun st ap hE=>kD (k:=0) 0 rfl rfl rfl cG bC (hE 26 rfl) rfl (fun _=>rfl) rfl oo (by rw [ap];rfl)
   ·exact (cN Y0)
   ·exact aM
   ·exact dW 30 fun st ap hE=>kb rfl rfl rfl lj (by simp only [eY,List.map,aU,hE 28 rfl,hE 29 rfl];rfl) (by rw [ap];rfl)
   ·exact aM
   ·exact dW 32 fun st ap hE=>lG (l:=1) (hgh:=a.length) (cells':=enc eI (a.drop 1)) ((a.drop 1)).length rfl rfl rfl cG bC (hE 31 rfl) ⟨_,rfl⟩ rfl oo oo (pI (f:=eI) (fun _=>rfl) _ _ _ rfl) q8 (by rw [ap];rfl)
   ·exact dW 33 fun st ap hE=>call_ (Rh c d (a.getD 0 0) (j:Int) (a.drop 1) oo oo oo) rfl rfl rfl rfl rfl VR (by show [st.env 25,st.env 30,st.env 32]++_=_;rw [hE 25 rfl,hE 30 rfl,hE 32 rfl];rfl) (by rw [ap];rfl)
   ·exact aM
   ·exact fL
   ·exact fL
   exact aM
  refine mV ?_;refine ak (aj (mV ?_));refine rU (upd (upd (upd (Ll a j) 7 (.q eN (jb c d (a.getD 0 0) (j:Int) (a.drop 1)))) 8 (.b (g5 c d (a.getD 0 0) (j:Int) (a.drop 1)))) 36 (.b (g5 c d (a.getD 0 0) (j:Int) (a.drop 1)))) (ah aG 1 (.live ⟨(sb c d),35,1⟩)) ?_;refine cD (fun hc2=>?_) fun hc2=>?_
  ·skip;have hpa:=Jg hp2 hnd om hinv hc2;refine aj (mO ?_);refine mO ?_;refine mV ?_;exact ak (aV (bq (av:=.bw [.q eN (jb c d (a.getD 0 0) (j:Int) (a.drop 1)),.v (.bool true)]) rfl rfl (by rw [hpa.1,hpa.2])))
  refine aR (bm (mV ?_));refine oG (qB (.int .i64 ((j+1:Nat):Int)) (addN om) ?_);refine mV ?_;refine ak ?_;show _∧_;refine ⟨by omega,(fun kx h=>by rcases Nat.lt_or_ge kx j with h2|h2;exact hinv kx h2;rw [show kx=j by omega];exact hc2),?_⟩;exact iI 1 1 rfl
 have il:=of_decide_eq_false hc1;have hpe:=IB (secs:=c) (pts:=d) hp2 hnd om hinv;refine cu (aj (mV ?_));refine mV ?_;refine rU (upd (upd none_ 4 vN) 5 (.b false)) (ah aG 1 (.live ⟨(sb c d),35,1⟩)) ?_;refine cy _ (d8 rfl (fun _ h=>h) (dy 5 (.b false) (cj (av:=.b false)) (dy 4 (.ro 0 []) .nil d9))) ?_;exact aV (bq (av:=.bw [.ro 0 [],.v (.bool false)]) rfl rfl (by rw [hpe.1,hpe.2];rfl))
theorem qg:YV Tryz.prog 41=some false:=by kernel_rfl
theorem VW:YV Tryz.prog 76=some true:=by kernel_rfl
theorem Ud:bO Tryz.prog 103=true:=by kernel_rfl
theorem Ue:bO Tryz.prog 104=true:=by kernel_rfl
theorem VX:bO Tryz.prog 75=true:=by kernel_rfl
theorem VY:bO Tryz.prog 76=true:=by kernel_rfl
theorem JZ:bO Tryz.prog 77=true:=by kernel_rfl
theorem VZ:bO Tryz.prog 78=true:=by kernel_rfl
theorem J0:bO Tryz.prog 79=true:=by kernel_rfl
theorem Cc:bO Tryz.prog 80=true:=by kernel_rfl
theorem V0:bO Tryz.prog 81=true:=by kernel_rfl
theorem V1:bO Tryz.prog 82=true:=by kernel_rfl
theorem V2:bO Tryz.prog 99=true:=by kernel_rfl
theorem SQ:dD Tryz.prog 76 2=some (57,2):=by kernel_rfl
theorem J1:(Tryz.prog.info? 76).map (·.size)=some 3:=by kernel_rfl
theorem wZ:Tryz.prog.underlying 77=some (.slice 76):=by kernel_rfl
theorem Rj (l:List Int) (s:Int) (hl:l.length≤4294967296):Fn Tryz.prog 104 [.q eI l,.rp [.v (.int .i64 s)]] (.v (.bool (decide (s∈l)))):=by
 refine cf (N:=7) Tryz.func104 rfl rfl (b_ rfl) (by simp) (fun w0 X bJ=>?_);refine aj (mV ?_);refine ak (aj (mO ?_));refine oV Y0 ?_;refine oG (qJ (Dq l s oo) Cb ?_);refine mV ?_;refine rU (upd none_ 3 (.b (decide (s∈l)))) aG ?_;exact aV (bq (av:=.v (.bool (decide (s∈l)))) rfl rfl rfl)
abbrev DG (a:List (List Int)) (s:Int):Nat→AV:=(upd (upd (upd none_ 0 (.q YO a)) 1 (.fn 104 [.rp [.i s]])) 4 (.i 0))
theorem V3 (a:List (List Int)) (s:Int) (hp:a.length≤65536) (hpl:∀x,x∈a→x.length≤65536):Fn Tryz.prog 103 [.q YO a,.fn 104 [.rp [.v (.int .i64 s)]]] (.v (.int .i64 (dl a s))):=by
 refine cf (N:=19) Tryz.func103 rfl rfl (b_ rfl) (by simp) (fun w0 X bJ=>?_);refine aj (mV ?_);refine ak (aB (aj (mO ?_)));refine oG (qN e4 ?_);refine mV ?_;refine rU (upd (upd (DG a s) 7 (.i (a.length:Int))) 8 (.i 0)) aG ?_;refine bf (cF (fun k=>⟨(upd (upd (DG a s) 7 (.i (a.length:Int))) 8 (.i (k:Int))),aG⟩) (fun k=>(a.take k).any (fun l=>decide (s∈l))=false) (a.length) ?_ (by simp) (fun k dq hinv=>?_))
 ·skip;exact iN
 refine aj (bB ?_);refine ak (aB (cD (fun hc0=>?_) fun hc0=>?_))
 ·skip;have hf1:=of_decide_eq_true hc0;have hpk:=hpl _ (c8 (l:=a) (k:=k) [] om);refine aR (aB (bf (aj (mV ?_))));refine mV ?_;refine ak (aj (mG (.fn 104 [.rp [.i s]]) ?_));refine mO ?_;refine mV ?_;refine oG (qX [] e4 i9 ?_);refine oO jE ?_;refine oG (qJ (Rj (a.getD k []) s oo) Ue ?_);refine rU (upd (upd (upd (upd (DG a s) 5 (.i (k:Int))) 7 (.i (a.length:Int))) 8 (.i (k:Int))) 16 (.b (decide (s∈(a.getD k []))))) aG ?_;refine cD (fun hc1=>?_) fun hc1=>?_
  ·skip;refine aj (mV ?_);refine mV ?_;exact ak (aV (bq (av:=.v (.int .i64 (k:Int))) rfl rfl (by unfold dl;rw [hJ [] om hinv hc1]<;>rfl)))
  refine aR (bm (oG (qB (.int .i64 ((k+1:Nat):Int)) (addN om) ?_)));refine mV ?_;refine ak ?_;show _∧_;refine ⟨by omega,(gT [] om hinv hc1),?_⟩;exact iN
 have hf2:=of_decide_eq_false hc0;refine cu (aj (mV ?_));exact ak (aV (bq (av:=.v (.int .i64 (-1))) rfl rfl (by unfold dl;rw [iK om hinv]<;>rfl)))
abbrev xX (a:List (List Int)):AV:=(.rp [.one,.one,.q YO a,.one,.one,.one,.one,.one,.one,.one])
theorem SS (a:List (List Int)) (s:Int) (hp:a.length≤65536) (hpl:∀x,x∈a→x.length≤65536):Fn Tryz.prog 86 [.rp [.one,.one,.q YO a,.one,.one,.one,.one,.one,.one,.one],.v (.int .i64 s)] (.v (.int .i64 (dl a s))):=by
 refine cf (N:=14) Tryz.func86 rfl rfl (b_ rfl) (by simp) (fun w0 X bJ=>?_);refine aj (oG (qW 51 ?_));refine mV ?_;refine ak (aB (aj (mR ?_)));refine oG (jz rfl rfl rfl Ca rfl rfl rfl (.inl ⟨rfl,rfl⟩) ?_);refine rU (upd (upd (upd (upd none_ 0 (xX a)) 3 (.pt 51 0)) 4 (.i 0)) 6 (.b false)) (ah aG 51 (.live ⟨[.i s],3,1⟩)) ?_;refine eh false rfl rfl (fun h=>by cases h) (fun _=>?_);refine aR (aj (mR ?_));refine oG (dC rfl rfl rfl rfl rfl ?_);refine oG (qF (xX a) (xX a) pJ cC ?_);refine oG (qF (xX a) (.rp [.q YO a,.one,.one,.one,.one,.one,.one,.one]) lI eG ?_);refine oO fQ ?_;refine oG (k9 (caps:=[.tmp 3]) rfl rfl rfl rfl ?_);refine oG (eA (V3 a s hp hpl) rfl rfl rfl rfl rfl Ud (bb (cj (av:=.q YO a)) (bb (lf lT) fe)) ?_);refine mV ?_;refine rU (upd none_ 4 (.i (dl a s))) (ah aG 51 (.live ⟨[.i s],3,1⟩)) ?_;exact aV (bq (av:=.v (.int .i64 (dl a s))) rfl rfl rfl)
theorem Rk (p:Int) (r:Bool) (a:List Bool) (hl:a.length≤4294967296):Fn Tryz.prog 78 [.agg [.v (.int .i64 p),.v (.bool r)],.q eB a] (.v (.bool (hasB a p != r))):=by
 refine cf (N:=12) Tryz.func78 rfl rfl (b_ rfl) (by simp) (fun w0 X bJ=>?_);refine aj (oG (qW 51 ?_));refine mV ?_;refine ak (aB (aD 7 [(11,.b ((hasB a p) != r)),(10,.b r),(9,.pt 51 1),(8,.b (hasB a p)),(7,.i p),(6,.pt 51 0),(5,.q eB a)] mixed ?_ ?_))
 ·refine ⟨?_,?_,?_,?_,?_,?_,?_,trivial⟩
  ·exact aM
  ·exact sF (.pt 51 0) (.pt 51 0) pL bC
  ·exact sL Y0
  ·exact dW 8 fun st ap hE=>call_ (Br a p oo) rfl rfl rfl rfl rfl Cc (by show [st.env 5,st.env 7]++_=_;rw [hE 5 rfl,hE 7 rfl];rfl) (by rw [ap];rfl)
  ·exact sF (.pt 51 0) (.pt 51 1) Is ik
  ·exact sL o5
  exact dW 11 fun st ap hE=>Ao rfl rfl rfl (hE 8 rfl) (hE 10 rfl) CJ (by rw [ap];rfl)
 refine mV ?_;exact ak (aV (bq (av:=.v (.bool ((hasB a p) != r))) rfl rfl rfl))
theorem Hd (p:Int) (r:Bool) (a:List Bool) (hl:a.length≤4294967296):Fn Tryz.prog 77 [.agg [.v (.int .i64 p),.v (.bool r)],.rp [.q eB a]] (.v (.bool (!(hasB a p != r)))):=by
 refine cf (N:=8) Tryz.func77 rfl rfl (b_ rfl) (by simp) (fun w0 X bJ=>?_);refine aj (oG (qW 51 ?_));refine mV ?_;refine ak (aj (oG (ZI [.i p,.b r] oT iE ?_)));refine oO qg ?_;refine oG (qJ (Rk p r a oo) VZ ?_);refine oG (er rfl rfl rfl rfl ?_);refine mV ?_;refine rU (upd none_ 3 (.b (!(hasB a p != r)))) (ah aG 51 (.live ⟨[.i p,.b r],95,1⟩)) ?_;exact aV (bq (av:=.v (.bool (!(hasB a p != r)))) rfl rfl rfl)
abbrev DI (l:List Need) (a:List Bool):Nat→AV:=(upd (upd (upd none_ 0 (.q eN l)) 1 (.fn 77 [.rp [.q eB a]])) 4 (.i 0))
theorem Rl (l:List Need) (a:List Bool) (hl:l.length≤4294967296) (hr:a.length≤4294967296):Fn Tryz.prog 79 [.q eN l,.fn 77 [.rp [.q eB a]]] (.v (.int .i64 (bL (f6 a) l))):=by
 refine cf (N:=19) Tryz.func79 rfl rfl (b_ rfl) (by simp) (fun w0 X bJ=>?_);refine aj (mV ?_);refine ak (aB (aj (mO ?_)));refine oG (qN iq ?_);refine mV ?_;refine rU (upd (upd (DI l a) 7 (.i (l.length:Int))) 8 (.i 0)) aG ?_;refine bf (cF (fun k=>⟨(upd (upd (DI l a) 7 (.i (l.length:Int))) 8 (.i (k:Int))),aG⟩) (fun k=>(l.take k).any (f6 a)=false) (l.length) ?_ (by simp) (fun k dq hinv=>?_))
 ·skip;exact iN
 refine aj (bB ?_);refine ak (aB (cD (fun hc0=>?_) fun hc0=>?_))
 ·skip;have hf1:=of_decide_eq_true hc0;refine aR (aB (bf (aj (mV ?_))));refine mV ?_;refine ak (aj (mG (.fn 77 [.rp [.q eB a]]) ?_));refine mO ?_;refine mV ?_;refine oG (qX dN iq iE ?_);refine oG (ZI [.i ((l.getD k dN).point),.b ((l.getD k dN).right)] oT iE ?_);refine oG (qJ (Hd ((l.getD k dN).point) ((l.getD k dN).right) a oo) JZ ?_);refine rU (upd (upd (upd (upd (DI l a) 5 (.i (k:Int))) 7 (.i (l.length:Int))) 8 (.i (k:Int))) 16 (.b (!(hasB a ((l.getD k dN).point) != ((l.getD k dN).right))))) aG ?_;refine cD (fun hc1=>?_) fun hc1=>?_
  ·skip;refine aj (mV ?_);refine mV ?_;exact ak (aV (bq (av:=.v (.int .i64 (k:Int))) rfl rfl (by rw [hJ (f:=f6 a) dN om hinv hc1]<;>rfl)))
  refine aR (bm (oG (qB (.int .i64 ((k+1:Nat):Int)) (addN om) ?_)));refine mV ?_;refine ak ?_;show _∧_;refine ⟨by omega,(gT dN om hinv hc1),?_⟩;exact iN
 have hf2:=of_decide_eq_false hc0;refine cu (aj (mV ?_));exact ak (aV (bq (av:=.v (.int .i64 (-1))) rfl rfl (by rw [iK (f:=f6 a) om hinv]<;>rfl)))
abbrev DJ (l:List Need):Nat→aK:=(ah aG 0 (.live ⟨(enc eN l),95,2⟩))
abbrev DK:ay:=⟨[.i 0,.b false],95,1⟩
abbrev DL (l:List Need) (a:List Bool):ay:=⟨(enc eN (b6 l a++List.replicate (l.length-(b6 l a).length) dN)),95,2⟩
abbrev qA (l:List Need) (a:List Bool):Nat→AV:=(upd (upd (upd none_ 0 (.sl 0 0 l.length)) 1 (.fn 77 [.rp [.q eB a]])) 4 vN)
theorem V4 (l:List Need) (a:List Bool) (hl:l.length≤4294967296) (hr:a.length≤4294967296):fi Tryz.prog 75 [⟨(enc eN l),95,2⟩] [.sl 0 0 l.length,.fn 77 [.rp [.q eB a]]] (.sl 0 0 ((b6 l a).length)) [.live (DL l a)]:=by
 refine ZS (N:=42) 1 rfl Tryz.func75 rfl rfl (b_ rfl) (by simp) (fun w0 G C bJ gX=>?_);refine aj (mV ?_);refine ak (aj (mS ?_));refine mG (.fn 77 [.rp [.q eB a]]) ?_;refine oG (eA (Rl l a oo oo) rfl rfl rfl rfl rfl J0 lT ?_);refine mV ?_;refine rU (upd (qA l a) 5 (.i (bL (f6 a) l))) (DJ l) ?_;refine aB (aj (mV ?_));refine bB ?_;refine ak (cD (fun hc0=>?_) fun hc0=>?_)
 ·skip;have hf1:=(beq_iff_eq).1 hc0
  have hn0:l.any (f6 a)=false:=by
   cases ha:l.any (f6 a) with
   |false=>rfl
   |true=>obtain ⟨k,h1,h2,h3⟩:=vB dN l ha;rw [hJ dN h1 h2 h3] at hf1;omega
  have hm0:=NW hn0;refine aj (mS ?_);refine mS ?_;refine rU (upd (upd (upd (upd none_ 0 (.sl 0 0 l.length)) 1 (.fn 77 [.rp [.q eB a]])) 4 (.sl 0 0 l.length)) 5 (.i (bL (f6 a) l))) (DJ l) ?_;refine cy ⟨(upd none_ 4 (.sl 0 0 ((b6 l a).length))),(ah aG 0 (.live (DL l a)))⟩ ?_ ?_
  ·skip;exact iL [(0,0)] [((0,0),.live _)] ⟨aP rfl (by exact congrArg (fun l_=>ay.mk (enc eN l_) 95 2) (by rw [hm0];simp)),trivial⟩ (he:=(sM (by exact congrArg (AV.sl 0 0) (by rw [hm0])) bQ))
  exact aV (ml rfl rfl rfl rfl)
 have hf2:=(beq_eq_false_iff_ne).1 hc0;obtain ⟨i0,hi,hlt,hpre,hdel⟩:=pA dN (show ¬bL (f6 a) l= -1 from fun e=>hf2 e);refine aR (aB (aj (mV ?_)));refine oG (qB (.int .i64 ((bL (f6 a) l)+1)) (gH om) ?_);refine mV ?_;refine rU (upd (upd (qA l a) 5 (.i (bL (f6 a) l))) 6 (.i ((bL (f6 a) l)+1))) (DJ l) ?_;refine bf (cF (fun k=>⟨(upd (upd (qA l a) 5 (.i (((cJ a l (i0+1+k)).2:Nat):Int))) 6 (.i ((i0+1+k:Nat):Int))),(ah aG 0 (.live ⟨(enc eN ((cJ a l (i0+1+k)).1)),95,2⟩))⟩) (fun k=>True) ((l.length-(i0+1))) ?_ trivial (fun k dq hinv=>?_))
 ·skip;have hf0:=F8 a hlt hpre hdel;exact iL [(0,0)] [((0,0),.live _)] ⟨aP rfl (by exact congrArg (fun l_=>ay.mk (enc eN l_) 95 2) (show (cJ a l (i0+1+0)).1=l by rw [show i0+1+0=i0+1 from rfl,hf0])),trivial⟩ (he:=(sS (by exact congrArg (fun n_:Int=>AV.v (.int .i64 n_)) (show bL (f6 a) l+1=((i0+1+0:Nat):Int) by omega)) (sS (by exact congrArg (fun n_:Int=>AV.v (.int .i64 n_)) (show bL (f6 a) l=(((cJ a l (i0+1+0)).2:Nat):Int) by rw [show i0+1+0=i0+1 from rfl,hf0];exact hi)) (sS rfl (sS rfl (sM rfl bQ))))))
 obtain ⟨hv1,hv2,hv3,hv4,hv5⟩:=He a l (i0+1+k) om;have hv6:=Rm a hlt hpre hdel k om;refine aB (aj (mV ?_));refine mS ?_;refine oG (d_ rfl rfl rfl rfl iq (fK rfl) ?_);refine bB ?_;refine rU (upd (upd (upd (qA l a) 5 (.i (((cJ a l (i0+1+k)).2:Nat):Int))) 6 (.i ((i0+1+k:Nat):Int))) 19 (.b (decide (((i0+1+k:Nat):Int)<(l.length:Int))))) (ah aG 0 (.live ⟨(enc eN ((cJ a l (i0+1+k)).1)),95,2⟩)) ?_;refine cD (fun hc1=>?_) fun hc1=>?_
 ·skip;have hf3:=of_decide_eq_true hc1;refine aR (aB (bf (aj (mS ?_))));refine mV ?_;refine oG (gv (k:=i0+1+k) rfl rfl rfl iq iE rfl rfl oo ?_);refine oG (vI (f:=eN) dN rfl rfl rfl oT iE rfl rfl rfl (fun _=>rfl) oo rfl ?_);refine oG (fW 51 rfl rfl rfl rfl wS rfl ?_);refine oG (qS iE ?_);refine rU (upd (upd (upd (qA l a) 5 (.i (((cJ a l (i0+1+k)).2:Nat):Int))) 6 (.i ((i0+1+k:Nat):Int))) 7 (.pt 51 0)) (ah (ah (ah aG 0 (.live ⟨(enc eN ((cJ a l (i0+1+k)).1)),95,2⟩)) 51 (.live DK)) 51 (.live ⟨[.i ((((cJ a l (i0+1+k)).1).getD (i0+1+k) dN).point),.b ((((cJ a l (i0+1+k)).1).getD (i0+1+k) dN).right)],95,1⟩)) ?_;refine aj (mG (.fn 77 [.rp [.q eB a]]) ?_);refine oG (ZI [.i ((((cJ a l (i0+1+k)).1).getD (i0+1+k) dN).point),.b ((((cJ a l (i0+1+k)).1).getD (i0+1+k) dN).right)] oT iE ?_);refine oG (qJ (Hd ((((cJ a l (i0+1+k)).1).getD (i0+1+k) dN).point) ((((cJ a l (i0+1+k)).1).getD (i0+1+k) dN).right) a oo) JZ ?_);refine oG (er rfl rfl rfl rfl ?_);refine rU (upd (upd (upd (upd (qA l a) 5 (.i (((cJ a l (i0+1+k)).2:Nat):Int))) 6 (.i ((i0+1+k:Nat):Int))) 7 (.pt 51 0)) 29 (.b (!(!(hasB a ((((cJ a l (i0+1+k)).1).getD (i0+1+k) dN).point) != ((((cJ a l (i0+1+k)).1).getD (i0+1+k) dN).right)))))) (ah (ah (ah aG 0 (.live ⟨(enc eN ((cJ a l (i0+1+k)).1)),95,2⟩)) 51 (.live DK)) 51 (.live ⟨[.i ((((cJ a l (i0+1+k)).1).getD (i0+1+k) dN).point),.b ((((cJ a l (i0+1+k)).1).getD (i0+1+k) dN).right)],95,1⟩)) ?_;refine cD (fun hc2=>?_) fun hc2=>?_
  ·skip;have eb:=gF hc2;refine aj (mS ?_);refine mV ?_;refine oG (ZI [.i ((((cJ a l (i0+1+k)).1).getD (i0+1+k) dN).point),.b ((((cJ a l (i0+1+k)).1).getD (i0+1+k) dN).right)] oT iE ?_);refine oG (gv (k:=(cJ a l (i0+1+k)).2) rfl rfl rfl iq iE rfl rfl oo ?_);refine oG (jy (f:=eN) (l:=(cJ a l (i0+1+k)).1) (l':=((cJ a l (i0+1+k)).1).set ((cJ a l (i0+1+k)).2) (⟨(((cJ a l (i0+1+k)).1).getD (i0+1+k) dN).point,(((cJ a l (i0+1+k)).1).getD (i0+1+k) dN).right⟩:Need)) (⟨(((cJ a l (i0+1+k)).1).getD (i0+1+k) dN).point,(((cJ a l (i0+1+k)).1).getD (i0+1+k) dN).right⟩:Need) rfl rfl rfl iE rfl rfl rfl rfl rfl (fun _=>rfl) oo rfl rfl ?_);refine rU (upd (upd (upd (qA l a) 5 (.i (((cJ a l (i0+1+k)).2:Nat):Int))) 6 (.i ((i0+1+k:Nat):Int))) 7 (.pt 51 0)) (ah (ah (ah (ah aG 0 (.live ⟨(enc eN ((cJ a l (i0+1+k)).1)),95,2⟩)) 51 (.live DK)) 51 (.live ⟨[.i ((((cJ a l (i0+1+k)).1).getD (i0+1+k) dN).point),.b ((((cJ a l (i0+1+k)).1).getD (i0+1+k) dN).right)],95,1⟩)) 0 (.live ⟨(enc eN (((cJ a l (i0+1+k)).1).set ((cJ a l (i0+1+k)).2) (⟨(((cJ a l (i0+1+k)).1).getD (i0+1+k) dN).point,(((cJ a l (i0+1+k)).1).getD (i0+1+k) dN).right⟩:Need))),95,2⟩)) ?_;refine bm (mV ?_);refine oG (qB (.int .i64 (((cJ a l (i0+1+k)).2+1:Nat):Int)) (addN om) ?_);refine mV ?_;refine ak (bm (mV ?_));refine oG (qB (.int .i64 ((i0+1+k+1:Nat):Int)) (addN om) ?_);refine mV ?_;refine ak ?_;show _∧_;have hs:=O3 a (l:=l) (j:=i0+1+k) om (by simpa [f6] using hc2);refine ⟨by omega,trivial,?_⟩;exact iL [(0,0)] [((0,0),.live _)] ⟨aP rfl (by exact congrArg (fun l_=>ay.mk (enc eN l_) 95 2) (congrArg Prod.fst hs)),trivial⟩ (he:=(sS rfl (sS (by exact congrArg (fun n_:Int=>AV.v (.int .i64 n_)) (congrArg (fun q:List Need×Nat=>((q.2:Nat):Int)) hs.symm)) (sS rfl (sS rfl (sM rfl bQ))))))
  have g0:=gG hc2;refine aR (bm (mV ?_));refine oG (qB (.int .i64 ((i0+1+k+1:Nat):Int)) (addN om) ?_);refine mV ?_;refine ak ?_;show _∧_;have hs:=O4 a (l:=l) (j:=i0+1+k) om (by simpa [f6] using hc2);refine ⟨by omega,trivial,?_⟩;exact iL [(0,0)] [((0,0),.live _)] ⟨aP rfl (by exact congrArg (fun l_=>ay.mk (enc eN l_) 95 2) (congrArg Prod.fst hs)),trivial⟩ (he:=(sS rfl (sS (by exact congrArg (fun n_:Int=>AV.v (.int .i64 n_)) (congrArg (fun q:List Need×Nat=>((q.2:Nat):Int)) hs.symm)) (sS rfl (sS rfl (sM rfl bQ))))))
 have fB:=of_decide_eq_false hc1;refine cu (aj (mS ?_));refine mV ?_;refine oG (sO (l:=(cJ a l (i0+1+k)).2) (ob:=⟨(enc eN ((cJ a l (i0+1+k)).1)),95,2⟩) rfl rfl rfl iq iE rfl rfl rfl ⟨_,rfl⟩ oo ?_);refine oG (vz (n:=l.length-((cJ a l (i0+1+k)).2)) (ob:=⟨(enc eN ((cJ a l (i0+1+k)).1)),95,2⟩) rfl rfl rfl rfl iq (vA wS) rfl rfl rfl oo (by show _+(l.length-(cJ a l (i0+1+k)).2)*2≤(enc eN (cJ a l (i0+1+k)).1).length;rw [fI (f:=eN) (s:=2) (fun _=>rfl)];omega) (O5 om) ?_);refine rU (upd (upd (upd none_ 0 (.sl 0 0 l.length)) 4 vN) 5 (.i (((cJ a l (i0+1+k)).2:Nat):Int))) (ah (ah aG 0 (.live ⟨(enc eN ((cJ a l (i0+1+k)).1)),95,2⟩)) 0 (.live ⟨(enc eN ((cJ a l (i0+1+k)).1.take (cJ a l (i0+1+k)).2++List.replicate (l.length-(cJ a l (i0+1+k)).2) dN)),95,2⟩)) ?_;refine aj (mS ?_);refine mV ?_;refine oG (rb (hgh:=(cJ a l (i0+1+k)).2) rfl rfl rfl iq iE rfl ⟨_,rfl⟩ oo ?_);refine mS ?_;refine rU (upd none_ 4 (.sl 0 0 ((cJ a l (i0+1+k)).2))) (ah (ah aG 0 (.live ⟨(enc eN ((cJ a l (i0+1+k)).1)),95,2⟩)) 0 (.live ⟨(enc eN ((cJ a l (i0+1+k)).1.take (cJ a l (i0+1+k)).2++List.replicate (l.length-(cJ a l (i0+1+k)).2) dN)),95,2⟩)) ?_;have hjk:i0+1+k=l.length:=by omega
 rw [hjk,List.take_of_length_le (Nat.le_refl _)] at hv4 hv5;refine cy ⟨(upd none_ 4 (.sl 0 0 ((b6 l a).length))),(ah aG 0 (.live (DL l a)))⟩ ?_ ?_
 ·skip;exact iL [(0,0)] [((0,0),.live _)] ⟨aP rfl (by exact congrArg (fun l_=>ay.mk (enc eN l_) 95 2) (by rw [hjk,hv4,hv5])),trivial⟩ (he:=(sM (by exact congrArg (AV.sl 0 0) (by rw [hjk,hv5])) bQ))
 exact aV (ml rfl rfl rfl rfl)
theorem SU (a:List Int) (s:Int) (hl:a.length≤4294967296):Fn Tryz.prog 82 [.agg [.one,.one,.q eI a],.rp [.v (.int .i64 s)]] (.v (.bool (decide (s∈a)))):=by
 refine cf (N:=8) Tryz.func82 rfl rfl (b_ rfl) (by simp) (fun w0 X bJ=>?_);refine aj (oG (qW 51 ?_));refine mV ?_;refine ak (aj (fG (.pt 51 2) SQ i9 ?_));refine oO jE ?_;refine oV Y0 ?_;refine oG (qJ (Dq a s oo) Cb ?_);refine mV ?_;refine rU (upd none_ 3 (.b (decide (s∈a)))) (ah aG 51 (.live ⟨[.one,.one,.q eI a],76,1⟩)) ?_;exact aV (bq (av:=.v (.bool (decide (s∈a)))) rfl rfl rfl)
abbrev DN (a:List View) (s:Int):Nat→AV:=(upd (upd (upd none_ 0 (.q eV a)) 1 (.fn 82 [.rp [.i s]])) 4 (.i 0))
theorem V5 (a:List View) (s:Int) (hn:a.length≤4294967296) (hv:∀v,v∈a→v.span.length≤65536):Fn Tryz.prog 99 [.q eV a,.fn 82 [.rp [.v (.int .i64 s)]]] (.v (.int .i64 (bL (mB s) a))):=by
 refine cf (N:=19) Tryz.func99 rfl rfl (b_ rfl) (by simp) (fun w0 X bJ=>?_);refine aj (mV ?_);refine ak (aB (aj (mO ?_)));refine oG (qN wZ ?_);refine mV ?_;refine rU (upd (upd (DN a s) 7 (.i (a.length:Int))) 8 (.i 0)) aG ?_;refine bf (cF (fun k=>⟨(upd (upd (DN a s) 7 (.i (a.length:Int))) 8 (.i (k:Int))),aG⟩) (fun k=>(a.take k).any (mB s)=false) (a.length) ?_ (by simp) (fun k dq hinv=>?_))
 ·skip;exact iN
 refine aj (bB ?_);refine ak (aB (cD (fun hc0=>?_) fun hc0=>?_))
 ·skip;have hf1:=of_decide_eq_true hc0;have hvk:=hv _ (c8 (l:=a) (k:=k) iW om);refine aR (aB (bf (aj (mV ?_))));refine mV ?_;refine ak (aj (mG (.fn 82 [.rp [.i s]]) ?_));refine mO ?_;refine mV ?_;refine oG (qX iW wZ J1 ?_);refine oG (ZI [.i ((a.getD k iW).id),.b ((a.getD k iW).sure),.q eI ((a.getD k iW).span)] VW J1 ?_);refine oG (qC (SU ((a.getD k iW).span) s oo) V1 ?_);refine rU (upd (upd (upd (upd (DN a s) 5 (.i (k:Int))) 7 (.i (a.length:Int))) 8 (.i (k:Int))) 16 (.b (decide (s∈((a.getD k iW).span))))) aG ?_;refine cD (fun hc1=>?_) fun hc1=>?_
  ·skip;refine aj (mV ?_);refine mV ?_;exact ak (aV (bq (av:=.v (.int .i64 (k:Int))) rfl rfl (by rw [hJ (f:=mB s) iW om hinv hc1]<;>rfl)))
  refine aR (bm (oG (qB (.int .i64 ((k+1:Nat):Int)) (addN om) ?_)));refine mV ?_;refine ak ?_;show _∧_;refine ⟨by omega,(gT iW om hinv hc1),?_⟩;exact iN
 have hf2:=of_decide_eq_false hc0;refine cu (aj (mV ?_));exact ak (aV (bq (av:=.v (.int .i64 (-1))) rfl rfl (by rw [iK (f:=mB s) om hinv]<;>rfl)))
theorem V6 (a:List View) (s:Int) (hn:a.length≤4294967296) (hv:∀v,v∈a→v.span.length≤65536):Fn Tryz.prog 81 [.q eV a,.fn 82 [.rp [.v (.int .i64 s)]]] (.v (.bool (a.any (mB s)))):=by
 refine cf (N:=9) Tryz.func81 rfl rfl (b_ rfl) (by simp) (fun w0 X bJ=>?_);refine aj (mV ?_);refine ak (aj (mO ?_));refine mG (.fn 82 [.rp [.i s]]) ?_;refine oG (qJ (V5 a s oo oo) V2 ?_);refine bB ?_;refine mV ?_;refine rU (upd none_ 4 (.b (decide ((bL (mB s) a)≥0)))) aG ?_;exact aV (bq (av:=.v (.bool (decide ((bL (mB s) a)≥0)))) rfl rfl (by rw [nB iW]<;>rfl))
abbrev Lm (a:List aH):Nat→aK:=(ah aG 51 (.live ⟨[.one,.one,.one,.q aE a,.one,.one,.one,.one,.one,.one],35,1⟩))
abbrev DO (a:List aH) (p:Int):Nat→aK:=(ah (ah (Lm a) 52 (.live ⟨[.i 0],3,1⟩)) 52 (.live ⟨[.i ((a.getD p.toNat dP).stem)],3,1⟩))
theorem Uf (a:List aH) (c:List Int) (e:List View) (d f:List Bool) (p:Int) (hp:a.length≤65536) (hs:c.length≤65536) (hn:e.length≤65536) (hlk:d.length≤65536) (hh:f.length≤65536) (hv:∀v,v∈e→v.span.length≤65536):Fn Tryz.prog 48 [.agg [.one,.one,.one,.q aE a,.one,.one,.one,.one,.one,.one],.q aC c,.q eV e,.q eB d,.q eB f,.v (.int .i64 p)] (.v (.bool (jX a c e d f p))):=by
 refine cf (N:=58) Tryz.func48 rfl rfl (b_ rfl) (by simp) (fun w0 X bJ=>?_);refine aj (oG (qW 51 ?_));refine mV ?_;refine ak (aB (aj (mV ?_)));refine bB ?_;refine mV ?_;refine dA 6 22 (.b ((decide (p<0))||(decide (p≥(a.length:Int))))) ?_ ?_
 ·refine (Bool.eq_false_or_eq_true (decide (p<0))).elim (fun hg1=>?_) (fun hg1=>?_)
  ·skip;have hf2:=of_decide_eq_true hg1;refine nG hg1 ?_;refine nG hg1 ?_;refine nG hg1 ?_;refine nG hg1 ?_;refine nG hg1 ?_;refine oG (qP (decide (p<0)) (.b true) hg1 ?_);exact ak (bS (bR 22 _ _ (by rw [hg1]<;>rfl) lO))
  have hf3:=of_decide_eq_false hg1;refine oY hg1 (qM (.i p) ?_);refine oY hg1 (qF (.pt 51 0) (.pt 51 3) gU gb ?_);refine oY hg1 (qL (.q aE a) iw ?_);refine oY hg1 (qN gI ?_);refine oY hg1 (qB (.bool (decide (p≥(a.length:Int)))) rfl ?_);refine oG (qP (decide (p<0)) (.b (decide (p≥(a.length:Int)))) hg1 ?_);exact ak (bS (bR 22 _ _ (by rw [hg1]<;>rfl) lO))
 refine mV ?_;refine dA 4 27 (.b (((decide (p<0))||(decide (p≥(a.length:Int))))||(hasB f p))) ?_ ?_
 ·refine (Bool.eq_false_or_eq_true ((decide (p<0))||(decide (p≥(a.length:Int))))).elim (fun hg4=>?_) (fun hg4=>?_)
  ·skip;refine nG hg4 ?_;refine nG hg4 ?_;refine nG hg4 ?_;refine oG (qP ((decide (p<0))||(decide (p≥(a.length:Int)))) (.b true) hg4 ?_);exact ak (bS (bR 27 _ _ (by rw [hg4]<;>rfl) lO))
  obtain ⟨iu,ij⟩:=gd hg4;have fB:=of_decide_eq_false iu;have gl:=of_decide_eq_false ij;refine oY hg4 (qM (.q eB f) ?_);refine oY hg4 (qM (.i p) ?_);refine oY hg4 (qJ (Br f p oo) Cc ?_);refine oG (qP ((decide (p<0))||(decide (p≥(a.length:Int)))) (.b (hasB f p)) hg4 ?_);exact ak (bS (bR 27 _ _ (by rw [hg4]<;>rfl) lO))
 refine ak (rT (upd (upd (upd (upd (upd (upd (upd none_ 1 (.q aC c)) 2 (.q eV e)) 3 (.q eB d)) 5 (.i p)) 6 (.pt 51 0)) 12 (.b false)) 27 (.b (((decide (p<0))||(decide (p≥(a.length:Int))))||(hasB f p)))) (Lm a) ?_);refine cD (fun hc0=>?_) fun hc0=>?_
 ·skip;refine aj (mV ?_);exact ak (aV (bq (av:=.v (.bool false)) rfl rfl (by rw [IC hc0])))
 obtain ⟨Cd,V7⟩:=gd hc0;obtain ⟨ZO,my⟩:=gd Cd;have lM:=of_decide_eq_false ZO;have kL:=of_decide_eq_false my;have hno:(decide (p<0)||decide (p≥(a.length:Int))||hasB f p)=false:=hc0;have hpr:0≤p∧p<(a.length:Int):=by simp only [Bool.or_eq_false_iff,decide_eq_false_iff_not] at hno;omega
 refine aR (aj (fG (.pt 51 3) gU gb ?_));refine oO iw ?_;refine mV ?_;refine oG (YZ dP rfl rfl rfl gI jk rfl rfl (fun _=>rfl) rfl om oo ?_);refine oG (qF (.rp (([.i ((a.getD p.toNat dP).node),.i ((a.getD p.toNat dP).stem),.i ((a.getD p.toNat dP).left),.i ((a.getD p.toNat dP).right)]:List AV)++((enc aE a).drop ((p.toNat+1)*4)))) (.rp (([.i ((a.getD p.toNat dP).stem),.i ((a.getD p.toNat dP).left),.i ((a.getD p.toNat dP).right)]:List AV)++((enc aE a).drop ((p.toNat+1)*4)))) mW bC ?_);refine oV Y0 ?_;refine oG (fW 52 rfl rfl rfl rfl K9 rfl ?_);refine oG (qS bC ?_);refine rU (upd (upd (upd (upd (upd none_ 1 (.q aC c)) 2 (.q eV e)) 3 (.q eB d)) 12 (.b false)) 13 (.pt 52 0)) (DO a p) ?_;refine aB (aj (mO ?_));refine oG (k9 (caps:=[.tmp 13]) rfl rfl rfl rfl ?_);refine oG (eA (V6 e (a.getD p.toNat dP).stem om hv) rfl rfl rfl rfl rfl V0 (bb (cj (av:=.q eV e)) (bb (lf lT) fe)) ?_);refine ak (cD (fun hc1=>?_) fun hc1=>?_)
 ·skip;refine aj (mV ?_);refine rU (upd (upd (upd (upd none_ 1 (.q aC c)) 3 (.q eB d)) 12 (.b false)) 13 (.pt 52 0)) (DO a p) ?_;exact aV (bq (av:=.v (.bool false)) rfl rfl (by rw [ID hno hc1]))
 refine aR (aj (oV Y0 ?_));refine bB ?_;refine mV ?_;refine dA 5 44 (.b ((decide (((a.getD p.toNat dP).stem)≥0))&&(decide (((a.getD p.toNat dP).stem)<(c.length:Int))))) ?_ ?_
 ·refine (Bool.eq_false_or_eq_true (decide (((a.getD p.toNat dP).stem)≥0))).elim (fun eH=>?_) (fun eH=>?_)
  ·skip;have lN:=of_decide_eq_true eH;refine oY eH (qL (.i ((a.getD p.toNat dP).stem)) Y0 ?_);refine oY eH (qM (.q aC c) ?_);refine oY eH (qN cq ?_);refine oY eH (qB (.bool (decide (((a.getD p.toNat dP).stem)<(c.length:Int)))) rfl ?_);refine oG (qP (decide (((a.getD p.toNat dP).stem)≥0)) (.b (decide (((a.getD p.toNat dP).stem)<(c.length:Int)))) eH ?_);exact ak (bS (bR 44 _ _ (by rw [eH]<;>rfl) lO))
  have lP:=of_decide_eq_false eH;refine nG eH ?_;refine nG eH ?_;refine nG eH ?_;refine nG eH ?_;refine oG (qP (decide (((a.getD p.toNat dP).stem)≥0)) (.b false) eH ?_);exact ak (bS (bR 44 _ _ (by rw [eH]<;>rfl) lO))
 refine mV ?_;refine dA 6 51 (.b (((decide (((a.getD p.toNat dP).stem)≥0))&&(decide (((a.getD p.toNat dP).stem)<(c.length:Int))))&&((c.getD ((a.getD p.toNat dP).stem).toNat 0)==0))) ?_ ?_
 ·refine (Bool.eq_false_or_eq_true ((decide (((a.getD p.toNat dP).stem)≥0))&&(decide (((a.getD p.toNat dP).stem)<(c.length:Int))))).elim (fun jY=>?_) (fun jY=>?_)
  ·skip;obtain ⟨tv,tw⟩:=fE jY;have ZW:=of_decide_eq_true tv;have mx:=of_decide_eq_true tw;refine oY jY (qM (.q aC c) ?_);refine oY jY (qL (.i ((a.getD p.toNat dP).stem)) Y0 ?_);refine oY jY (YZ 0 rfl rfl rfl cq cR rfl rfl (fun _=>rfl) rfl om oo ?_);refine oY jY (qL (.v (.int .u8 (c.getD ((a.getD p.toNat dP).stem).toNat 0))) dB ?_);refine oY jY (qB (.bool ((c.getD ((a.getD p.toNat dP).stem).toNat 0)==0)) rfl ?_);refine oG (qP ((decide (((a.getD p.toNat dP).stem)≥0))&&(decide (((a.getD p.toNat dP).stem)<(c.length:Int)))) (.b ((c.getD ((a.getD p.toNat dP).stem).toNat 0)==0)) jY ?_);exact ak (bS (bR 51 _ _ (by rw [jY]<;>rfl) lO))
  refine nG jY ?_;refine nG jY ?_;refine nG jY ?_;refine nG jY ?_;refine nG jY ?_;refine oG (qP ((decide (((a.getD p.toNat dP).stem)≥0))&&(decide (((a.getD p.toNat dP).stem)<(c.length:Int)))) (.b false) jY ?_);exact ak (bS (bR 51 _ _ (by rw [jY]<;>rfl) lO))
 refine mV ?_;refine dA 5 57 (.b ((((decide (((a.getD p.toNat dP).stem)≥0))&&(decide (((a.getD p.toNat dP).stem)<(c.length:Int))))&&((c.getD ((a.getD p.toNat dP).stem).toNat 0)==0))&&(!(hasB d ((a.getD p.toNat dP).stem))))) ?_ ?_
 ·refine (Bool.eq_false_or_eq_true (((decide (((a.getD p.toNat dP).stem)≥0))&&(decide (((a.getD p.toNat dP).stem)<(c.length:Int))))&&((c.getD ((a.getD p.toNat dP).stem).toNat 0)==0))).elim (fun gg=>?_) (fun gg=>?_)
  ·skip;obtain ⟨BB,BD⟩:=fE gg;obtain ⟨BE,BF⟩:=fE BB;have tQ:=of_decide_eq_true BE;have B8:=of_decide_eq_true BF;have tS:=(beq_iff_eq).1 BD;refine oY gg (qM (.q eB d) ?_);refine oY gg (qL (.i ((a.getD p.toNat dP).stem)) Y0 ?_);refine oY gg (qJ (Br d ((a.getD p.toNat dP).stem) oo) Cc ?_);refine oY gg (er rfl rfl rfl rfl ?_);refine oG (qP (((decide (((a.getD p.toNat dP).stem)≥0))&&(decide (((a.getD p.toNat dP).stem)<(c.length:Int))))&&((c.getD ((a.getD p.toNat dP).stem).toNat 0)==0)) (.b (!(hasB d ((a.getD p.toNat dP).stem)))) gg ?_);exact ak (bS (bR 57 _ _ (by rw [gg]<;>rfl) lO))
  refine nG gg ?_;refine nG gg ?_;refine nG gg ?_;refine nG gg ?_;refine oG (qP (((decide (((a.getD p.toNat dP).stem)≥0))&&(decide (((a.getD p.toNat dP).stem)<(c.length:Int))))&&((c.getD ((a.getD p.toNat dP).stem).toNat 0)==0)) (.b false) gg ?_);exact ak (bS (bR 57 _ _ (by rw [gg]<;>rfl) lO))
 refine mV ?_;refine ak (rT (upd none_ 12 (.b ((((decide (((a.getD p.toNat dP).stem)≥0))&&(decide (((a.getD p.toNat dP).stem)<(c.length:Int))))&&((c.getD ((a.getD p.toNat dP).stem).toNat 0)==0))&&(!(hasB d ((a.getD p.toNat dP).stem)))))) (DO a p) ?_);exact aV (bq (av:=.v (.bool ((((decide (((a.getD p.toNat dP).stem)≥0))&&(decide (((a.getD p.toNat dP).stem)<(c.length:Int))))&&((c.getD ((a.getD p.toNat dP).stem).toNat 0)==0))&&(!(hasB d ((a.getD p.toNat dP).stem)))))) rfl rfl (by rw [HP hno hc1]))
theorem kS:YV Tryz.prog 2=some false:=by kernel_rfl
theorem e7:YV Tryz.prog 37=some false:=by kernel_rfl
theorem aag:YV Tryz.prog 69=some false:=by kernel_rfl
theorem jm:YV Tryz.prog 71=some false:=by kernel_rfl
theorem V8:YV Tryz.prog 77=some false:=by kernel_rfl
theorem mC:YV Tryz.prog 91=some false:=by kernel_rfl
theorem Jh:bO Tryz.prog 102=true:=by kernel_rfl
theorem w3:bO Tryz.prog 37=true:=by kernel_rfl
theorem V9:bO Tryz.prog 47=true:=by kernel_rfl
theorem V_:bO Tryz.prog 48=true:=by kernel_rfl
theorem tX:bO Tryz.prog 50=true:=by kernel_rfl
theorem Wa:bO Tryz.prog 59=true:=by kernel_rfl
theorem Wb:bO Tryz.prog 70=true:=by kernel_rfl
theorem Wc:bO Tryz.prog 71=true:=by kernel_rfl
theorem Wd:bO Tryz.prog 72=true:=by kernel_rfl
theorem J2:bO Tryz.prog 84=true:=by kernel_rfl
theorem Wg:bO Tryz.prog 85=true:=by kernel_rfl
theorem Wh:bO Tryz.prog 86=true:=by kernel_rfl
theorem Wi:bO Tryz.prog 87=true:=by kernel_rfl
theorem Wj:bO Tryz.prog 94=true:=by kernel_rfl
theorem oL:dD Tryz.prog 59 0=some (3,0):=by kernel_rfl
theorem v9:dD Tryz.prog 59 1=some (3,1):=by kernel_rfl
theorem pP:dD Tryz.prog 59 2=some (2,2):=by kernel_rfl
theorem jh:dD Tryz.prog 59 3=some (40,3):=by kernel_rfl
theorem kE:dD Tryz.prog 73 0=some (35,0):=by kernel_rfl
theorem rH:dD Tryz.prog 73 1=some (69,10):=by kernel_rfl
theorem ic:dD Tryz.prog 73 2=some (71,11):=by kernel_rfl
theorem YT:(Tryz.prog.info? 69).map (·.size)=some 1:=by kernel_rfl
theorem gi:(Tryz.prog.info? 71).map (·.size)=some 1:=by kernel_rfl
theorem jF:(Tryz.prog.info? 91).map (·.size)=some 1:=by kernel_rfl
theorem lQ:Tryz.prog.underlying 37=some (.pointer 73):=by kernel_rfl
theorem fk:Tryz.prog.underlying 71=some (.slice 91):=by kernel_rfl
abbrev xY (a:List (List Int)):AV:=(.rp [.one,.one,.one,.one,.q YO a,.one,.one,.one,.one,.one,.one,.one])
theorem nO (a:List (List Int)) (r:Int) (hro:a.length≤65536):Fn Tryz.prog 41 [.rp [.one,.one,.one,.one,.q YO a,.one,.one,.one,.one,.one,.one,.one],.v (.int .i64 r)] (.v (.bool (eo a r))):=by
 refine cf (N:=21) Tryz.func41 rfl rfl (b_ rfl) (by simp) (fun w0 X bJ=>?_);refine aj (mV ?_);refine ak (aj (mR ?_));refine oG (jz rfl rfl rfl lQ rfl rfl rfl (.inr ⟨rfl,rfl⟩) ?_);refine mV ?_;refine fZ rfl rfl rfl rfl (dz (av:=.i r) (.inl rfl) rfl rfl rfl ?_);refine fZ rfl rfl rfl rfl (ez (u:=(.bool (decide (r≥0)))) rfl rfl rfl rfl rfl trivial rfl ?_);refine oG (fJ (b:=true) (av:=.b (decide (r≥0))) rfl rfl rfl rfl rfl ?_);refine mV ?_;refine dA 9 20 (.b ((decide (r≥0))&&(decide (r<(a.length:Int))))) ?_ ?_
 ·refine (Bool.eq_false_or_eq_true (decide (r≥0))).elim (fun hg1=>?_) (fun hg1=>?_)
  ·skip;have hf2:=of_decide_eq_true hg1;refine oY hg1 (qM (.i r) ?_);refine oY hg1 (qM (xY a) ?_);refine oY hg1 (dC rfl rfl rfl rfl rfl ?_);refine oY hg1 (qF (xY a) (xY a) kE cC ?_);refine oY hg1 (qF (xY a) (.rp [.q YO a,.one,.one,.one,.one,.one,.one,.one]) ib eG ?_);refine oY hg1 (qL (.q YO a) fQ ?_);refine oY hg1 (qN e4 ?_);refine oY hg1 (qB (.bool (decide (r<(a.length:Int)))) rfl ?_);refine oG (qP (decide (r≥0)) (.b (decide (r<(a.length:Int)))) hg1 ?_);exact ak (bS (bR 20 _ _ (by rw [hg1]<;>rfl) lO))
  have hf3:=of_decide_eq_false hg1;refine nG hg1 ?_;refine nG hg1 ?_;refine nG hg1 ?_;refine nG hg1 ?_;refine nG hg1 ?_;refine nG hg1 ?_;refine nG hg1 ?_;refine nG hg1 ?_;refine oG (qP (decide (r≥0)) (.b false) hg1 ?_);exact ak (bS (bR 20 _ _ (by rw [hg1]<;>rfl) lO))
 refine mV ?_;refine ak (rT (upd none_ 4 (.b ((decide (r≥0))&&(decide (r<(a.length:Int)))))) aG ?_);exact aV (bq (av:=.v (.bool ((decide (r≥0))&&(decide (r<(a.length:Int)))))) rfl rfl (by rfl))
abbrev DR (a:List (List Int)):AV:=(.rp [.one,.one,.one,.one,.q YO a,.one,.one,.one,.one,.one,.one,.one])
theorem Ae (a:List (List Int)) (r:Int) (hro:a.length≤65536) (hr:0≤r∧r<(a.length:Int)) (hp:1≤(a.getD r.toNat []).length):Fn Tryz.prog 50 [.rp [.one,.one,.one,.one,.q YO a,.one,.one,.one,.one,.one,.one,.one],.v (.int .i64 r)] (.q eI (bu a r)):=by
 have hps:1≤(a[r.toNat]?.getD []).length:=by rw [←List.getD_eq_getElem?_getD];exact hp
 refine cf (N:=14) Tryz.func50 rfl rfl (b_ rfl) (by simp) (fun w0 X bJ=>?_);refine aj (mV ?_);refine ak (aj (mR ?_));refine oG (dC rfl rfl rfl rfl rfl ?_);refine oG (qF (DR a) (DR a) kE cC ?_);refine oG (qF (DR a) (.rp [.q YO a,.one,.one,.one,.one,.one,.one,.one]) ib eG ?_);refine oO fQ ?_;refine mV ?_;refine oG (YZ [] rfl rfl rfl e4 i9 rfl rfl (fun _=>rfl) rfl om oo ?_);refine oO jE ?_;refine oG (lG (l:=1) (hgh:=((a.getD r.toNat []).length)) (cells':=enc eI ((a.getD r.toNat []).drop 1)) (((a.getD r.toNat []).drop 1)).length rfl rfl rfl cG bC rfl ⟨_,rfl⟩ rfl oo oo (pI (f:=eI) (fun _=>rfl) _ _ _ rfl) q8 ?_);refine mO ?_;refine rU (upd none_ 4 (.q eI ((a.getD r.toNat []).drop 1))) aG ?_;exact aV (bq (av:=.ro ((((a.getD r.toNat []).drop 1)).length) (enc eI ((a.getD r.toNat []).drop 1))) rfl rfl rfl)
abbrev DT (a:List (List Int)) (ls:List Lk):AV:=(.rp [.one,.one,.one,.one,.q YO a,.one,.one,.one,.one,.one,.one,.q dm ls])
abbrev oc (ls:List Lk) (k:Nat):AV:=(.rp [.i ((ls.getD k ao).route),.i ((ls.getD k ao).cX),.i ((ls.getD k ao).ends),.q aC ((ls.getD k ao).pieces)])
abbrev xZ (a:List (List Int)) (ls:List Lk) (s:Int):Nat→AV:=(upd (upd (upd none_ 0 (DT a ls)) 1 (.i s)) 4 (.i 0))
theorem vT (a:List (List Int)) (ls:List Lk) (s:Int) (hro:a.length≤65536) (hll:ls.length≤65536) (hlk:∀x,x∈ls→gn a x):Fn Tryz.prog 37 [.rp [.one,.one,.one,.one,.q YO a,.one,.one,.one,.one,.one,.one,.q dm ls],.v (.int .i64 s)] (.v (.int .i64 (e8 a ls s))):=by
 refine cf (N:=44) Tryz.func37 rfl rfl (b_ rfl) (by simp) (fun w0 X bJ=>?_);refine aj (mV ?_);refine ak (aB (aj (mR ?_)));refine oG (jz rfl rfl rfl lQ rfl rfl rfl (.inl ⟨rfl,rfl⟩) ?_);refine ak (eh false rfl rfl (fun h=>by cases h) (fun _=>?_));refine aR (aB (aj (mR ?_)));refine oG (dC rfl rfl rfl rfl rfl ?_);refine oG (qF (DT a ls) (.rp [.q dm ls]) ic gi ?_);refine oO jm ?_;refine oG (qN fk ?_);refine mV ?_;refine rU (upd (upd (upd (xZ a ls s) 13 (.q dm ls)) 14 (.i (ls.length:Int))) 15 (.i 0)) aG ?_;refine bf (cF (fun k=>⟨(upd (upd (upd (xZ a ls s) 13 (.q dm ls)) 14 (.i (ls.length:Int))) 15 (.i (k:Int))),aG⟩) (fun k=>(ls.take k).any (lZ a s)=false) (ls.length) ?_ (by simp) (fun k dq hinv=>?_))
 ·skip;exact iN
 refine aj (bB ?_);refine ak (aB (cD (fun hc1=>?_) fun hc1=>?_))
 ·skip;have hf1:=of_decide_eq_true hc1;have hx:=hlk _ (c8 (l:=ls) (k:=k) ao om);have j3:=hx.r;have hxp:=hx.ps;have hxl:=hx.ln;have hix:=Ug (routes:=a) (s:=s) (x:=(ls.getD k ao));have hpl:=mT (routes:=a) (r:=(ls.getD k ao).route);refine aR (aB (bf (aj (oG (qX ao fk jF ?_)))));refine oR mC ?_;refine mR ?_;refine rU (upd (upd (upd (upd (xZ a ls s) 6 (oc ls k)) 13 (.q dm ls)) 14 (.i (ls.length:Int))) 15 (.i (k:Int))) aG ?_;refine aj (mR ?_);refine mR ?_;refine oG (dC rfl rfl rfl rfl rfl ?_);refine oG (qF (oc ls k) (oc ls k) oL bC ?_);refine oV Y0 ?_;refine oG (qC (Ae a (ls.getD k ao).route hro j3 om) tX ?_);refine mV ?_;refine oG (qJ (show Fn Tryz.prog 68 [.q eI (bu a ((ls.getD k ao).route)),.i s] (.i (jc a s (ls.getD k ao))) from (K8 (bu a (ls.getD k ao).route) s om)) JX ?_);refine mV ?_;refine rU (upd (upd (upd (upd (upd (xZ a ls s) 6 (oc ls k)) 7 (.i (jc a s (ls.getD k ao)))) 13 (.q dm ls)) 14 (.i (ls.length:Int))) 15 (.i (k:Int))) aG ?_;refine aj (mV ?_);refine bB ?_;refine mV ?_;refine dA 9 38 (.b ((decide ((jc a s (ls.getD k ao))≥0))&&((((ls.getD k ao).pieces).getD (jc a s (ls.getD k ao)).toNat 0) != 0))) ?_ ?_
  ·refine (Bool.eq_false_or_eq_true (decide ((jc a s (ls.getD k ao))≥0))).elim (fun hg2=>?_) (fun hg2=>?_)
   ·skip;have hf3:=of_decide_eq_true hg2;refine oY hg2 (qM (oc ls k) ?_);refine oY hg2 (dC rfl rfl rfl rfl rfl ?_);refine oY hg2 (qF (oc ls k) (.rp [.q aC ((ls.getD k ao).pieces)]) jh d3 ?_);refine oY hg2 (qL (.q aC ((ls.getD k ao).pieces)) dX ?_);refine oY hg2 (qM (.i (jc a s (ls.getD k ao))) ?_);refine oY hg2 (YZ 0 rfl rfl rfl cq cR rfl rfl (fun _=>rfl) rfl om oo ?_);refine oY hg2 (qL (.v (.int .u8 (((ls.getD k ao).pieces).getD (jc a s (ls.getD k ao)).toNat 0))) dB ?_);refine oY hg2 (qB (.bool ((((ls.getD k ao).pieces).getD (jc a s (ls.getD k ao)).toNat 0) != 0)) rfl ?_);refine oG (qP (decide ((jc a s (ls.getD k ao))≥0)) (.b ((((ls.getD k ao).pieces).getD (jc a s (ls.getD k ao)).toNat 0) != 0)) hg2 ?_);exact ak (bS (bR 38 _ _ (by rw [hg2]<;>rfl) lO))
   have eb:=of_decide_eq_false hg2;refine nG hg2 ?_;refine nG hg2 ?_;refine nG hg2 ?_;refine nG hg2 ?_;refine nG hg2 ?_;refine nG hg2 ?_;refine nG hg2 ?_;refine nG hg2 ?_;refine oG (qP (decide ((jc a s (ls.getD k ao))≥0)) (.b false) hg2 ?_);exact ak (bS (bR 38 _ _ (by rw [hg2]<;>rfl) lO))
  refine ak (cD (fun hc2=>?_) fun hc2=>?_)
  ·skip;obtain ⟨iu,ij⟩:=fE hc2;have fB:=of_decide_eq_true iu;have gl:=(bne_iff_ne).1 ij;have hwq:lZ a s (ls.getD k ao)=true:=hc2;refine aj (mR ?_);refine oG (dC rfl rfl rfl rfl rfl ?_);refine oG (qF (oc ls k) (oc ls k) oL bC ?_);refine oV Y0 ?_;refine mV ?_;refine rU (upd (upd (upd (upd (upd (upd (upd (upd none_ 0 (DT a ls)) 1 (.i s)) 4 (.i ((ls.getD k ao).route))) 6 (oc ls k)) 7 (.i (jc a s (ls.getD k ao)))) 13 (.q dm ls)) 14 (.i (ls.length:Int))) 15 (.i (k:Int))) aG ?_;exact aV (bq (av:=.v (.int .i64 ((ls.getD k ao).route))) rfl rfl (by rw [Rn om hinv hwq]<;>rfl))
  have hwq:lZ a s (ls.getD k ao)=false:=hc2;refine aR (bm (oG (qB (.int .i64 ((k+1:Nat):Int)) (addN om) ?_)));refine mV ?_;refine ak ?_;show _∧_;refine ⟨by omega,(gT ao om hinv hwq),?_⟩;exact iN
 have il:=of_decide_eq_false hc1;refine cu (aj (mV ?_));exact ak (aV (bq (av:=.v (.int .i64 (-1))) rfl rfl (by rw [Ro om hinv]<;>rfl)))
abbrev sc (a:List ax) (b:List (List Int)) (ls:List Lk):AV:=(.rp [.one,.q aI a,.one,.one,.q YO b,.one,.one,.one,.one,.one,.one,.q dm ls])
theorem Ol (a:List ax) (b:List (List Int)) (ls:List Lk) (hs:a.length≤65536) (hro:b.length≤65536) (hll:ls.length≤65536) (hlk:∀x,x∈ls→gn b x):Fn Tryz.prog 14 [.rp [.one,.q aI a,.one,.one,.q YO b,.one,.one,.one,.one,.one,.one,.q dm ls]] (.q eB (c_ b ls a.length a.length)):=by
 have hrl:(List.replicate a.length false).length=a.length:=List.length_replicate;refine cf (N:=28) Tryz.func14 rfl rfl (b_ rfl) (by simp) (fun w0 X bJ=>?_);refine aj (mV ?_);refine ak (aB (aj (mR ?_)));refine oG (jz rfl rfl rfl lQ rfl rfl rfl (.inl ⟨rfl,rfl⟩) ?_);refine ak (eh false rfl rfl (fun h=>by cases h) (fun _=>?_));refine aR (aj (mR ?_));refine oG (dC rfl rfl rfl rfl rfl ?_);refine oG (qF (sc a b ls) (sc a b ls) kE cC ?_);refine oG (qF (sc a b ls) (.rp [.q aI a,.one,.one,.q YO b,.one,.one,.one,.one,.one,.one,.q dm ls]) iM ZJ ?_);refine oO i7 ?_;refine oG (qN iR ?_);refine oG (pC (n:=a.length) (f:=eB) 51 (false:Bool) rfl rfl rfl eF ng rfl rfl rfl rfl om om rfl rfl ?_);refine mS ?_;refine rU (upd (upd (upd none_ 0 (sc a b ls)) 2 vN) 3 (.sl 51 0 ((List.replicate a.length (false:Bool)).length))) (ah aG 51 (.live ⟨(enc eB (List.replicate a.length (false:Bool))),4,1⟩)) ?_;refine aB (aj (mS ?_));refine oG (d_ rfl rfl rfl rfl eF (fK rfl) ?_);refine mV ?_;refine ak (bf (cF (fun k=>⟨(upd (upd (upd (upd (upd none_ 0 (sc a b ls)) 2 vN) 3 (.sl 1 0 ((c_ b ls a.length k).length))) 15 (.i ((List.replicate a.length (false:Bool)).length:Int))) 16 (.i (k:Int))),(ah aG 1 (.live ⟨(enc eB (c_ b ls a.length k)),4,1⟩))⟩) (fun k=>True) (a.length) ?_ trivial (fun k dq hinv=>?_)))
 ·skip;exact iI 51 1 rfl (he:=(sS rfl (sS rfl (sM (by exact congrArg (AV.sl 1 0) (by simp [c_])) (sS rfl (sS rfl bQ)))))) (eJ:=(by exact congrArg (fun l_=>ay.mk (enc eB l_) 4 1) (by simp [c_])))
 have hsl:=rm (routes:=b) (ls:=ls) (k:=k) (n:=a.length) om;refine aj (bB ?_);refine ak (aB (cD (fun hc1=>?_) fun hc1=>?_))
 ·skip;have hf1:=of_decide_eq_true hc1;refine aR (aB (bf (aj (mV ?_))));refine mV ?_;refine ak (bm (mS ?_));refine mV ?_;refine mR ?_;refine mV ?_;refine oG (qC (vT b ls (k:Int) oo oo oo) w3 ?_);refine bB ?_;refine oG (gv (k:=k) rfl rfl rfl eF ik rfl rfl oo ?_);refine oG (jy (f:=eB) (l:=c_ b ls a.length k) (l':=(c_ b ls a.length k).set k (decide ((e8 b ls (k:Int))≥0):Bool)) (decide ((e8 b ls (k:Int))≥0):Bool) rfl rfl rfl ik rfl rfl rfl rfl rfl (fun _=>rfl) oo rfl rfl ?_);refine ak (rT (upd (upd (upd (upd (upd (upd none_ 0 (sc a b ls)) 2 vN) 3 (.sl 1 0 ((c_ b ls a.length k).length))) 4 (.i (k:Int))) 15 (.i ((List.replicate a.length (false:Bool)).length:Int))) 16 (.i (k:Int))) (ah (ah aG 1 (.live ⟨(enc eB (c_ b ls a.length k)),4,1⟩)) 1 (.live ⟨(enc eB ((c_ b ls a.length k).set k (decide ((e8 b ls (k:Int))≥0):Bool))),4,1⟩)) ?_);refine bm (oG (qB (.int .i64 ((k+1:Nat):Int)) (addN om) ?_));refine mV ?_;refine ak ?_;show _∧_;have hs_:=GH (routes:=b) (ls:=ls) (k:=k) (n:=a.length) om;refine ⟨by omega,trivial,?_⟩;exact iI 1 1 rfl (he:=(sS rfl (sS rfl (sM (by exact congrArg (AV.sl 1 0) (by rw [←hs_,List.length_set])) (sS rfl (sS rfl bQ)))))) (eJ:=(by exact congrArg (fun l_=>ay.mk (enc eB l_) 4 1) hs_.symm))
 have hf2:=of_decide_eq_false hc1;refine cu (aj (mS ?_));refine mS ?_;refine ak (cy _ (d8 rfl (fun _ h=>h) (dy 2 (.q eB (c_ b ls a.length k)) (fv (id:=1) (n:=(c_ b ls a.length k).length) (o:=⟨(enc eB (c_ b ls a.length k)),4,1⟩) rfl (YW (fun _=>rfl) (by first|rfl|(simp;done)))) d9)) ?_);exact aV (bq (av:=.ro ((c_ b ls a.length k).length) (enc eB (c_ b ls a.length k))) rfl rfl (by rw [show k=a.length by omega]))
theorem Rp (b:Int):Fn Tryz.prog 85 [.v (.int .u8 b)] (.v (.bool (b != 0))):=by
 refine cf (N:=5) Tryz.func85 rfl rfl (b_ rfl) (by simp) (fun w0 X bJ=>?_);refine aj (mV ?_);refine ak (aj (mV ?_));refine bB ?_;refine mV ?_;refine rU (upd none_ 2 (.b (b != 0))) aG ?_;exact aV (bq (av:=.v (.bool (b != 0))) rfl rfl rfl)
theorem Rq (b:Int):Fn Tryz.prog 87 [.v (.int .u8 b)] (.v (.bool (b != 0))):=by
 refine cf (N:=5) Tryz.func87 rfl rfl (b_ rfl) (by simp) (fun w0 X bJ=>?_);refine aj (mV ?_);refine ak (aj (mV ?_));refine bB ?_;refine mV ?_;refine rU (upd none_ 2 (.b (b != 0))) aG ?_;exact aV (bq (av:=.v (.bool (b != 0))) rfl rfl rfl)
abbrev DU (l:List Int):Nat→AV:=(upd (upd (upd none_ 0 (.q aC l)) 1 (.fn 85 [])) 4 (.i 0))
theorem Wl (l:List Int) (hl:l.length≤4294967296):Fn Tryz.prog 102 [.q aC l,.fn 85 []] (.v (.int .i64 (bL (fun b:Int=>b != 0) l))):=by
 refine cf (N:=19) Tryz.func102 rfl rfl (b_ rfl) (by simp) (fun w0 X bJ=>?_);refine aj (mV ?_);refine ak (aB (aj (mO ?_)));refine oG (qN cq ?_);refine mV ?_;refine rU (upd (upd (DU l) 7 (.i (l.length:Int))) 8 (.i 0)) aG ?_;refine bf (cF (fun k=>⟨(upd (upd (DU l) 7 (.i (l.length:Int))) 8 (.i (k:Int))),aG⟩) (fun k=>(l.take k).any (fun b:Int=>b != 0)=false) (l.length) ?_ (by simp) (fun k dq hinv=>?_))
 ·skip;exact iN
 refine aj (bB ?_);refine ak (aB (cD (fun hc0=>?_) fun hc0=>?_))
 ·skip;have hf1:=of_decide_eq_true hc0;refine aR (aB (bf (aj (mV ?_))));refine mV ?_;refine ak (aj (mG (.fn 85 []) ?_));refine mO ?_;refine mV ?_;refine oG (qX (0:Int) cq cR ?_);refine oV dB ?_;refine oG (qJ (Rp (l.getD k 0)) Wg ?_);refine rU (upd (upd (upd (upd (DU l) 5 (.i (k:Int))) 7 (.i (l.length:Int))) 8 (.i (k:Int))) 16 (.b ((l.getD k 0) != 0))) aG ?_;refine cD (fun hc1=>?_) fun hc1=>?_
  ·skip;refine aj (mV ?_);refine mV ?_;exact ak (aV (bq (av:=.v (.int .i64 (k:Int))) rfl rfl (by rw [hJ (f:=fun b:Int=>b != 0) 0 om hinv hc1]<;>rfl)))
  refine aR (bm (oG (qB (.int .i64 ((k+1:Nat):Int)) (addN om) ?_)));refine mV ?_;refine ak ?_;show _∧_;refine ⟨by omega,(gT 0 om hinv hc1),?_⟩;exact iN
 have hf2:=of_decide_eq_false hc0;refine cu (aj (mV ?_));exact ak (aV (bq (av:=.v (.int .i64 (-1))) rfl rfl (by rw [iK (f:=fun b:Int=>b != 0) om hinv]<;>rfl)))
theorem Wm (l:List Int) (hl:l.length≤4294967296):Fn Tryz.prog 84 [.q aC l,.fn 85 []] (.v (.bool (l.any (fun b:Int=>b != 0)))):=by
 refine cf (N:=9) Tryz.func84 rfl rfl (b_ rfl) (by simp) (fun w0 X bJ=>?_);refine aj (mV ?_);refine ak (aj (mO ?_));refine mG (.fn 85 []) ?_;refine oG (qJ (Wl l oo) Jh ?_);refine bB ?_;refine mV ?_;refine rU (upd none_ 4 (.b (decide ((bL (fun b:Int=>b != 0) l)≥0)))) aG ?_;exact aV (bq (av:=.v (.bool (decide ((bL (fun b:Int=>b != 0) l)≥0)))) rfl rfl (by rw [nB 0]<;>rfl))
abbrev DV (l:List Int):Nat→AV:=(upd (upd (upd none_ 0 (.q aC l)) 1 (.fn 87 [])) 4 (.i 0))
theorem Wn (l:List Int) (hl:l.length≤4294967296):Fn Tryz.prog 102 [.q aC l,.fn 87 []] (.v (.int .i64 (bL (fun b:Int=>b != 0) l))):=by
 refine cf (N:=19) Tryz.func102 rfl rfl (b_ rfl) (by simp) (fun w0 X bJ=>?_);refine aj (mV ?_);refine ak (aB (aj (mO ?_)));refine oG (qN cq ?_);refine mV ?_;refine rU (upd (upd (DV l) 7 (.i (l.length:Int))) 8 (.i 0)) aG ?_;refine bf (cF (fun k=>⟨(upd (upd (DV l) 7 (.i (l.length:Int))) 8 (.i (k:Int))),aG⟩) (fun k=>(l.take k).any (fun b:Int=>b != 0)=false) (l.length) ?_ (by simp) (fun k dq hinv=>?_))
 ·skip;exact iN
 refine aj (bB ?_);refine ak (aB (cD (fun hc0=>?_) fun hc0=>?_))
 ·skip;have hf1:=of_decide_eq_true hc0;refine aR (aB (bf (aj (mV ?_))));refine mV ?_;refine ak (aj (mG (.fn 87 []) ?_));refine mO ?_;refine mV ?_;refine oG (qX (0:Int) cq cR ?_);refine oV dB ?_;refine oG (qJ (Rq (l.getD k 0)) Wi ?_);refine rU (upd (upd (upd (upd (DV l) 5 (.i (k:Int))) 7 (.i (l.length:Int))) 8 (.i (k:Int))) 16 (.b ((l.getD k 0) != 0))) aG ?_;refine cD (fun hc1=>?_) fun hc1=>?_
  ·skip;refine aj (mV ?_);refine mV ?_;exact ak (aV (bq (av:=.v (.int .i64 (k:Int))) rfl rfl (by rw [hJ (f:=fun b:Int=>b != 0) 0 om hinv hc1]<;>rfl)))
  refine aR (bm (oG (qB (.int .i64 ((k+1:Nat):Int)) (addN om) ?_)));refine mV ?_;refine ak ?_;show _∧_;refine ⟨by omega,(gT 0 om hinv hc1),?_⟩;exact iN
 have hf2:=of_decide_eq_false hc0;refine cu (aj (mV ?_));exact ak (aV (bq (av:=.v (.int .i64 (-1))) rfl rfl (by rw [iK (f:=fun b:Int=>b != 0) om hinv]<;>rfl)))
theorem Wo (l:List Int) (hl:l.length≤4294967296):Fn Tryz.prog 84 [.q aC l,.fn 87 []] (.v (.bool (l.any (fun b:Int=>b != 0)))):=by
 refine cf (N:=9) Tryz.func84 rfl rfl (b_ rfl) (by simp) (fun w0 X bJ=>?_);refine aj (mV ?_);refine ak (aj (mO ?_));refine mG (.fn 87 []) ?_;refine oG (qJ (Wn l oo) Jh ?_);refine bB ?_;refine mV ?_;refine rU (upd none_ 4 (.b (decide ((bL (fun b:Int=>b != 0) l)≥0)))) aG ?_;exact aV (bq (av:=.v (.bool (decide ((bL (fun b:Int=>b != 0) l)≥0)))) rfl rfl (by rw [nB 0]<;>rfl))
theorem SV (ps:List Int) (hl:ps.length≤65536):Fn Tryz.prog 59 [.q aC ps] (.v (.bool (!(ps.any (fun b:Int=>b != 0))))):=by
 refine cf (N:=6) Tryz.func59 rfl rfl (b_ rfl) (by simp) (fun w0 X bJ=>?_);refine aj (mV ?_);refine ak (aj (mO ?_));refine oG (qJ (Wo ps om) J2 ?_);refine oG (er rfl rfl rfl rfl ?_);refine mV ?_;refine rU (upd none_ 2 (.b (!(ps.any (fun b:Int=>b != 0))))) aG ?_;exact aV (bq (av:=.v (.bool (!(ps.any (fun b:Int=>b != 0))))) rfl rfl rfl)
theorem HQ (ps:List Int) (hl:ps.length≤65536):Fn Tryz.prog 58 [.rp [.one,.one,.one,.q aC ps]] (.v (.bool (!(ps.any (fun b:Int=>b != 0))))):=by
 refine cf (N:=8) Tryz.func58 rfl rfl (b_ rfl) (by simp) (fun w0 X bJ=>?_);refine aj (mV ?_);refine ak (aj (mR ?_));refine oG (dC rfl rfl rfl rfl rfl ?_);refine oG (qF (.rp [.one,.one,.one,.q aC ps]) (.rp [.q aC ps]) jh d3 ?_);refine oO dX ?_;refine oG (qJ (SV ps oo) Wa ?_);refine mV ?_;refine rU (upd none_ 2 (.b (!(ps.any (fun b:Int=>b != 0))))) aG ?_;exact aV (bq (av:=.v (.bool (!(ps.any (fun b:Int=>b != 0))))) rfl rfl rfl)
end Go.Lo