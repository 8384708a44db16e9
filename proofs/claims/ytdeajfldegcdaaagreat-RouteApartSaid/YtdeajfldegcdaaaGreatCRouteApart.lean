/- "balise/baliselaw15.RouteApart" returns true whatever its arguments, and they read behind the call as ahead of it. No condition. -/
import Derived.Test.YtdeajfldegcdaaaGreatRows

import Derived.Test.YtdeajfldegcdaaaGreatPFnApm9
import Derived.Test.YtdeajfldegcdaaaGreatPFnAp6

set_option linter.unusedVariables false
namespace Go.Proofs.YtdeajfldegcdaaaGreat.routeApart
open Go.Lo Go.ChangeShapes Go.WideShapes Go.ChangeAt Go.RowKit
theorem own:ownKnob Tryz.prog.godebug=none:=by kernel_rfl
theorem laidOut:laidOutB Tryz.prog=true:=by kernel_rfl
theorem Da:Tryz.prog.underlying 22=some (.int .u16):=by kernel_rfl
theorem Nu:Tryz.prog.underlying 23=some (.slice 40):=by kernel_rfl
theorem Nv:Tryz.prog.underlying 26=some (.slice 43):=by kernel_rfl
theorem Oa:Tryz.prog.underlying 4=some (.bool):=by kernel_rfl
theorem sA:Tryz.prog.underlying 40=some (.slice 5):=by kernel_rfl
theorem Nw:Tryz.prog.underlying 41=some (.slice 4):=by kernel_rfl
theorem asq:Tryz.prog.underlying 5=some (.int .u8):=by kernel_rfl
theorem Db:Tryz.prog.cellsOf 22=1:=by kernel_rfl
theorem Nx:Tryz.prog.cellsOf 23=1:=by kernel_rfl
theorem Ny:Tryz.prog.cellsOf 25=9:=by kernel_rfl
theorem Ob:Tryz.prog.cellsOf 4=1:=by kernel_rfl
theorem sD:Tryz.prog.cellsOf 40=1:=by kernel_rfl
theorem Nz:Tryz.prog.cellsOf 41=1:=by kernel_rfl
theorem Dc:Tryz.prog.cellsOf 43=8:=by kernel_rfl
theorem iG:Tryz.prog.cellsOf 5=1:=by kernel_rfl
theorem Dd:nC Tryz.prog 25=some [(5,0),(5,1),(5,2),(22,3),(22,4),(5,5),(5,6),(5,7),(23,8)]:=by kernel_rfl
theorem NA:nC Tryz.prog 43=some [(5,0),(5,1),(5,2),(40,3),(40,4),(41,5),(40,6),(5,7)]:=by kernel_rfl
theorem LI:Dec Tryz.prog 25 abQ 9 (agv):=agE (fun x=>(⟨x.1,x.2.1,x.2.2.1,x.2.2.2.1,x.2.2.2.2.1,x.2.2.2.2.2.1,x.2.2.2.2.2.2.1,x.2.2.2.2.2.2.2.1,x.2.2.2.2.2.2.2.2.1⟩:nI)) (zo Dd (gu (gW asq) rfl iG (gu (gW asq) rfl iG (gu (gW asq) rfl iG (gu (gW Da) rfl Db (gu (gW Da) rfl Db (gu (gW asq) rfl iG (gu (gW asq) rfl iG (gu (gW asq) rfl iG (gu (abD (f:=(fun l_=>[.ro l_.length (enc aI l_)])) Nu sD (abD (f:=aI) sA iG (gW asq))) rfl Nx Ao))))))))) Ny) (fun _=>rfl) (fun _ h=>⟨bounds_u8 h.1,bounds_u8 h.2.1,bounds_u8 h.2.2.1,bounds_u16 h.2.2.2.1,bounds_u16 h.2.2.2.2.1,bounds_u8 h.2.2.2.2.2.1,bounds_u8 h.2.2.2.2.2.2.1,bounds_u8 h.2.2.2.2.2.2.2.1,h.2.2.2.2.2.2.2.2.1.2,fun x hx y hy=>bounds_u8 ((h.2.2.2.2.2.2.2.2.1.1 x hx).1 y hy)⟩)
theorem LJ:Dec Tryz.prog 43 fD 8 (rP):=agE (fun x=>(⟨x.1,x.2.1,x.2.2.1,x.2.2.2.1,x.2.2.2.2.1,x.2.2.2.2.2.1,x.2.2.2.2.2.2.1,x.2.2.2.2.2.2.2.1⟩:Go.Lo.Act)) (zo NA (gu (gW asq) rfl iG (gu (gW asq) rfl iG (gu (gW asq) rfl iG (gu (abD (f:=aI) sA iG (gW asq)) rfl sD (gu (abD (f:=aI) sA iG (gW asq)) rfl sD (gu (abD (f:=eB) Nw Ob (aj1 Oa)) rfl Nz (gu (abD (f:=aI) sA iG (gW asq)) rfl sD (gu (gW asq) rfl iG Ao)))))))) Dc) (fun _=>rfl) (fun _ h=>⟨bounds_u8 h.1,bounds_u8 h.2.1,bounds_u8 h.2.2.1,fun y hy=>bounds_u8 (h.2.2.2.1.1 y hy),fun y hy=>bounds_u8 (h.2.2.2.2.1.1 y hy),fun y hy=>bounds_u8 (h.2.2.2.2.2.2.1.1 y hy),bounds_u8 h.2.2.2.2.2.2.2.1,h.2.2.2.1.2,h.2.2.2.2.1.2,h.2.2.2.2.2.1.2,h.2.2.2.2.2.2.1.2⟩)
theorem rt:Tryz.prog.underlying 4=some .bool:=by kernel_rfl
set_option maxRecDepth 100000 in
theorem lifted (os:Os) (started:os.Started) (H:Type) (en:TypeId×Value→H):
    ReturnsInHanded {} Tryz.checked os 4 .any (Rows.routeApartSpec.pre6 en Tryz.prog Tryz.f4 Rows.routeApartRow.domain false) (Rows.routeApartSpec.post en Tryz.prog Tryz.f4 false true false false):=by
  refine returnsInHanded_of_change (C:=Tryz.checked) own started (by kernel_rfl) Tryz.func4
    (ChangeSpec.witness6 (enc:=en) (C:=Tryz.checked) false ⟨#[], #[.agg #[(.int .u8 0),(.int .u8 0),(.int .u8 0),(.int .u16 0),(.int .u16 0),(.int .u8 0),(.int .u8 0),(.int .u8 0),(.slice none 0 0)],.slice none 0 0],[]⟩ 8 (by kernel_rfl) (by kernel_rfl) (by kernel_rfl) (by kernel_rfl)) ?_
  intro W base args ds gs before hval0 hW hcnd _;have hval:∀(j:Nat) t v,Tryz.f4.params[j]? =some t→args[j]? =some v→Value.okWide Tryz.prog W .any base t v:=hval0;have hW':=hW;obtain ⟨p,q,hA0,hV,rfl,hfz,hnd⟩:=hW;have hA:DataW.TrodAll en Tryz.prog W 0 (fun _=>true) true Tryz.f4.params.toList args.toList ds p:=hA0;rw [show Tryz.f4.params= #[25,26] from rfl] at hA hval;obtain ⟨v0,OY,d0,ds0,p0,q0,hargs,rfl,rfl,k0,z0⟩:=trodAll_cons hA;obtain ⟨v1,vs1,d1,ds1,p1,q1,rfl,rfl,rfl,k1,z1⟩:=trodAll_cons z0;obtain ⟨rfl,rfl,rfl⟩:=trodAll_nil z1;obtain rfl:args= #[v0,v1]:=by cases args;simp_all
  obtain ⟨rfl,rfl⟩:=trodVars_none hV;have Oc:∀x∈p0,x.block<W.heap.size:=by obtain ⟨m,hm⟩:=k0;exact DataW.trod_lt m _ _ _ hm
  have Od:∀x∈p1,x.block<W.heap.size:=by obtain ⟨m,hm⟩:=k1;exact DataW.trod_lt m _ _ _ hm
  obtain ⟨x0,w0,r0⟩:=FZ Dd LI (hval 0 25 v0 rfl rfl) k0;obtain ⟨x1,w1,r1⟩:=GL (f:=fD) Nv Dc LJ (hval 1 26 v1 rfl rfl) k1
  clear hA0 hval0
  refine (I_ (E8 x0 x1 w0 w1.2 w1.1) W (ajt rfl) #[v0,v1] rfl (B_ (bU:=[.agg (abQ x0),.ro x1.length (enc fD x1)]) (us:=[v0,v1]) ⟨r0,r1,trivial⟩)).mono fun e W2 ⟨he,yr⟩=>?_;subst he;exact ⟨_,rfl,_,_,_,[],_,[],hW',trodAll_mk1 (shut_bool rt _),(trodAll_cons_mk (Below.trod laidOut (by kernel_rfl) (of_decide_eq_true (by kernel_rfl)) k0 yr Oc) (trodAll_cons_mk (Below.trod laidOut (by kernel_rfl) (of_decide_eq_true (by kernel_rfl)) k1 yr Od) trodAll_mk0)),rfl,yr.frame _,fun h=>by cases h⟩

theorem over:Rows.routeApartRow.holds Tryz.pinned (OpenSpec.ofChange Rows.routeApartSpec):=
  OpenClaim.holds_of_wide 4 Tryz.f4 rfl rfl rfl rfl rfl rfl rfl ⟨rfl,rfl,rfl,rfl,rfl⟩ rfl rfl rfl rfl rfl (by kernel_rfl) Tryz.func4 (by kernel_rfl)
    (of_decide_eq_true (by kernel_rfl)) (by unfold Func.isWrapper;first|(rw [if_pos (by decide+kernel)];kernel_rfl)|(rw [if_neg (by decide+kernel)];exact ⟨rfl,rfl⟩))
    (fun os started H en _=>lifted os started H en)

/-- THE STATEMENT. -/
theorem proved:Rows.RouteApartSaid:=over
#print axioms proved
end Go.Proofs.YtdeajfldegcdaaaGreat.routeApart
