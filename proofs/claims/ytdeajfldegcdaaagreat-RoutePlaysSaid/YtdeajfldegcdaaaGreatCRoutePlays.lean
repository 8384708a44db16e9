/- "balise/baliselaw15.RoutePlays" returns true whatever its arguments, and they read behind the call as ahead of it. No condition. -/
import Derived.Test.YtdeajfldegcdaaaGreatRows

import Derived.Test.YtdeajfldegcdaaaGreatPFnPlm9
import Derived.Test.YtdeajfldegcdaaaGreatPFnPl8

set_option linter.unusedVariables false
namespace Go.Proofs.YtdeajfldegcdaaaGreat.routePlays
open Go.Lo Go.ChangeShapes Go.WideShapes Go.ChangeAt Go.RowKit
theorem own:ownKnob Tryz.prog.godebug=none:=by kernel_rfl
theorem laidOut:laidOutB Tryz.prog=true:=by kernel_rfl
theorem KF:Tryz.prog.underlying 22=some (.int .u16):=by kernel_rfl
theorem Xa:Tryz.prog.underlying 23=some (.slice 40):=by kernel_rfl
theorem Xb:Tryz.prog.underlying 26=some (.slice 43):=by kernel_rfl
theorem X6:Tryz.prog.underlying 4=some (.bool):=by kernel_rfl
theorem xw:Tryz.prog.underlying 40=some (.slice 5):=by kernel_rfl
theorem Xc:Tryz.prog.underlying 41=some (.slice 4):=by kernel_rfl
theorem kY:Tryz.prog.underlying 5=some (.int .u8):=by kernel_rfl
theorem KG:Tryz.prog.cellsOf 22=1:=by kernel_rfl
theorem Xd:Tryz.prog.cellsOf 23=1:=by kernel_rfl
theorem Xe:Tryz.prog.cellsOf 25=9:=by kernel_rfl
theorem X7:Tryz.prog.cellsOf 4=1:=by kernel_rfl
theorem xx:Tryz.prog.cellsOf 40=1:=by kernel_rfl
theorem Xf:Tryz.prog.cellsOf 41=1:=by kernel_rfl
theorem KH:Tryz.prog.cellsOf 43=8:=by kernel_rfl
theorem kZ:Tryz.prog.cellsOf 5=1:=by kernel_rfl
theorem KI:rG Tryz.prog 25=some [(5,0),(5,1),(5,2),(22,3),(22,4),(5,5),(5,6),(5,7),(23,8)]:=by kernel_rfl
theorem Xg:rG Tryz.prog 43=some [(5,0),(5,1),(5,2),(40,3),(40,4),(41,5),(40,6),(5,7)]:=by kernel_rfl
theorem Vv:Dec Tryz.prog 25 NF 9 (H5):=Ij (fun x=>(⟨x.1,x.2.1,x.2.2.1,x.2.2.2.1,x.2.2.2.2.1,x.2.2.2.2.2.1,x.2.2.2.2.2.2.1,x.2.2.2.2.2.2.2.1,x.2.2.2.2.2.2.2.2.1⟩:rN)) (Gn KI (jA (jQ kY) rfl kZ (jA (jQ kY) rfl kZ (jA (jQ kY) rfl kZ (jA (jQ KF) rfl KG (jA (jQ KF) rfl KG (jA (jQ kY) rfl kZ (jA (jQ kY) rfl kZ (jA (jQ kY) rfl kZ (jA (rl (f:=(fun l_=>[.ro l_.length (enc aC l_)])) Xa xx (rl (f:=aC) xw kZ (jQ kY))) rfl Xd HF))))))))) Xe) (fun _=>rfl) (fun _ h=>⟨bounds_u8 h.1,bounds_u8 h.2.1,bounds_u8 h.2.2.1,bounds_u16 h.2.2.2.1,bounds_u16 h.2.2.2.2.1,bounds_u8 h.2.2.2.2.2.1,bounds_u8 h.2.2.2.2.2.2.1,bounds_u8 h.2.2.2.2.2.2.2.1,h.2.2.2.2.2.2.2.2.1.2,fun x hx y hy=>bounds_u8 ((h.2.2.2.2.2.2.2.2.1.1 x hx).1 y hy)⟩)
theorem Vw:Dec Tryz.prog 43 fa 8 (mo):=Ij (fun x=>(⟨x.1,x.2.1,x.2.2.1,x.2.2.2.1,x.2.2.2.2.1,x.2.2.2.2.2.1,x.2.2.2.2.2.2.1,x.2.2.2.2.2.2.2.1⟩:Go.Lo.Act)) (Gn Xg (jA (jQ kY) rfl kZ (jA (jQ kY) rfl kZ (jA (jQ kY) rfl kZ (jA (rl (f:=aC) xw kZ (jQ kY)) rfl xx (jA (rl (f:=aC) xw kZ (jQ kY)) rfl xx (jA (rl (f:=eB) Xc X7 (Q0 X6)) rfl Xf (jA (rl (f:=aC) xw kZ (jQ kY)) rfl xx (jA (jQ kY) rfl kZ HF)))))))) KH) (fun _=>rfl) (fun _ h=>⟨bounds_u8 h.1,bounds_u8 h.2.1,bounds_u8 h.2.2.1,fun y hy=>bounds_u8 (h.2.2.2.1.1 y hy),fun y hy=>bounds_u8 (h.2.2.2.2.1.1 y hy),fun y hy=>bounds_u8 (h.2.2.2.2.2.2.1.1 y hy),bounds_u8 h.2.2.2.2.2.2.2.1,h.2.2.2.1.2,h.2.2.2.2.1.2,h.2.2.2.2.2.1.2,h.2.2.2.2.2.2.1.2⟩)
theorem rt:Tryz.prog.underlying 4=some .bool:=by kernel_rfl
set_option maxRecDepth 100000 in
theorem lifted (os:Os) (started:os.Started) (H:Type) (en:TypeId×Value→H):
    ReturnsInHanded {} Tryz.checked os 3 .any (Rows.routePlaysSpec.pre6 en Tryz.prog Tryz.f3 Rows.routePlaysRow.domain false) (Rows.routePlaysSpec.post en Tryz.prog Tryz.f3 false true false false):=by
  refine returnsInHanded_of_change (C:=Tryz.checked) own started (by kernel_rfl) Tryz.func3
    (ChangeSpec.witness6 (enc:=en) (C:=Tryz.checked) false ⟨#[], #[.agg #[(.int .u8 0),(.int .u8 0),(.int .u8 0),(.int .u16 0),(.int .u16 0),(.int .u8 0),(.int .u8 0),(.int .u8 0),(.slice none 0 0)],.slice none 0 0],[]⟩ 8 (by kernel_rfl) (by kernel_rfl) (by kernel_rfl) (by kernel_rfl)) ?_
  intro W base args ds gs before hval0 hW hcnd _;have hval:∀(j:Nat) t v,Tryz.f3.params[j]? =some t→args[j]? =some v→Value.okWide Tryz.prog W .any base t v:=hval0;have hW':=hW;obtain ⟨p,q,sI,hV,rfl,hfz,hnd⟩:=hW;have hA:DataW.TrodAll en Tryz.prog W 0 (fun _=>true) true Tryz.f3.params.toList args.toList ds p:=sI;rw [show Tryz.f3.params= #[25,26] from rfl] at hA hval;obtain ⟨v0,YJ,d0,ds0,p0,q0,hargs,rfl,rfl,k0,z0⟩:=trodAll_cons hA;obtain ⟨v1,vs1,d1,ds1,p1,q1,rfl,rfl,rfl,k1,z1⟩:=trodAll_cons z0;obtain ⟨rfl,rfl,rfl⟩:=trodAll_nil z1;obtain rfl:args= #[v0,v1]:=by cases args;simp_all
  obtain ⟨rfl,rfl⟩:=trodVars_none hV;have X8:∀x∈p0,x.block<W.heap.size:=by obtain ⟨m,hm⟩:=k0;exact DataW.trod_lt m _ _ _ hm
  have X9:∀x∈p1,x.block<W.heap.size:=by obtain ⟨m,hm⟩:=k1;exact DataW.trod_lt m _ _ _ hm
  obtain ⟨x0,w0,r0⟩:=OJ KI Vv (hval 0 25 v0 rfl rfl) k0;obtain ⟨x1,w1,r1⟩:=PE (f:=fa) Xb KH Vw (hval 1 26 v1 rfl rfl) k1
  clear sI hval0
  refine (Sv (NL x0 x1 w0 w1.2 w1.1) W (PF rfl) #[v0,v1] rfl (JH (cW:=[.agg (NF x0),.ro x1.length (enc fa x1)]) (us:=[v0,v1]) ⟨r0,r1,trivial⟩)).mono fun e W2 ⟨he,Fp⟩=>?_;subst he;exact ⟨_,rfl,_,_,_,[],_,[],hW',trodAll_mk1 (shut_bool rt _),(trodAll_cons_mk (Below.trod laidOut (by kernel_rfl) (of_decide_eq_true (by kernel_rfl)) k0 Fp X8) (trodAll_cons_mk (Below.trod laidOut (by kernel_rfl) (of_decide_eq_true (by kernel_rfl)) k1 Fp X9) trodAll_mk0)),rfl,Fp.frame _,fun h=>by cases h⟩

theorem over:Rows.routePlaysRow.holds Tryz.pinned (OpenSpec.ofChange Rows.routePlaysSpec):=
  OpenClaim.holds_of_wide 3 Tryz.f3 rfl rfl rfl rfl rfl rfl rfl ⟨rfl,rfl,rfl,rfl,rfl⟩ rfl rfl rfl rfl rfl (by kernel_rfl) Tryz.func3 (by kernel_rfl)
    (of_decide_eq_true (by kernel_rfl)) (by unfold Func.isWrapper;first|(rw [if_pos (by decide+kernel)];kernel_rfl)|(rw [if_neg (by decide+kernel)];exact ⟨rfl,rfl⟩))
    (fun os started H en _=>lifted os started H en)

/-- THE STATEMENT. -/
theorem proved:Rows.RoutePlaysSaid:=over
#print axioms proved
end Go.Proofs.YtdeajfldegcdaaaGreat.routePlays
