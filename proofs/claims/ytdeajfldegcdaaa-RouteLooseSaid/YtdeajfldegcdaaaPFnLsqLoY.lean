/- Part of the logic of values: what the law reaches. -/
import Derived.Test.YtdeajfldegcdaaaPFnLsqLoX
import Derived.Test.YtdeajfldegcdaaaPFnLsqGr
set_option linter.unusedVariables false
set_option linter.unusedSimpArgs false
namespace Go.Lo
theorem callN_ {P : Program} {E : Env0} {st : St} {K : St → Prop} {o : Oper} {c : Call} {cal : Operand} {args : List Operand} {tys : Array TypeId} {f d : Nat} {caps avs : List AV} {res res' : AV} {news news' : List LObj} (s : Nat) (hF : FnO P f avs res news)
  (ho : o.op = .call c) (hc : c = { callee := .value cal, args := args.toArray, argTypes := tys }) (hd : o.dst = some d) (hN : (okOp E.N cal && args.all (okOp E.N) && Nat.blt d E.N) = true)
  (hcal : evA st.env cal = .fn f caps) (hb : bodied P f = true) (hl : ∀ ob, Lends ob (args.map (evA st.env) ++ caps) avs) (hno : ∀ o, o ∈ news → NoIds o.cells)
  (hfree : ∀ i, i < news.length → st.ob (s + i) = .free) (hres : res.map (· + s) = res') (hnews : news = news')
  (h : K ⟨upd st.env d res', addO st.ob s news'⟩) : AOp P E o st K := by
 refine aop_callO (news' := news') s false ho hc hd hN hcal hb (hl _) (fun _ => hl _) hF (fun h => by cases h) hfree hres ?_ h
 subst hnews
 rw [List.map_congr_left (g := _root_.id) (fun o ho => ?_), List.map_id]
 have : AV.mapL (· + s) o.cells = o.cells := mapL_noId (hno o ho)
 show LObj.mk _ _ _ = o
 rw [this]
theorem newsN1 {o : LObj} [h : NoIL o.cells] : ∀ o' : LObj, o' ∈ [o] → NoIds o'.cells := fun o' ho => by
 rw [List.mem_singleton.1 ho]; exact h.out
end Go.Lo
