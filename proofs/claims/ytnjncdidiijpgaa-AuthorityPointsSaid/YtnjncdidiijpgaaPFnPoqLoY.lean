/- Part of the logic of values: what the law reaches. -/
import Derived.Test.YtnjncdidiijpgaaPFnPoqLoX
import Derived.Test.YtnjncdidiijpgaaPFnPoqGr
set_option linter.unusedVariables false
set_option linter.unusedSimpArgs false
namespace Go.Lo
def Zed (av : AV) (u : Value) : Prop := av = .v u ∨ (av = .ro 0 [] ∧ u = .slice none 0 0)
theorem zed_R {w : World} {C : Ctx} {av : AV} {u : Value} (h : Zed av u) : R w C av u := by
 rcases h with h | ⟨h, h2⟩
 ·subst h; exact .v u
 ·subst h h2; exact .ro 0 0 none [] (fun _ => undef) (Nat.le_refl 0) (by decide) (fun _ => ⟨rfl, rfl⟩) (fun j hj => by simp at hj) (fun j av hj => by simp at hj)
section
variable {P : Program} {E : Env0} {st : St} {K : St → Prop}
theorem aop_clearW {o : Oper} {c : Call} {t e : TypeId} {x : Operand} {id off n : Nat} {z : Value} {ob : LObj} {cells' zs : List AV} (ho : o.op = .call c) (hc : c = { callee := .builtin .clear, args := #[x], argTypes := #[t] }) (hd : o.dst = none) (hN : okOp E.N x = true)
  (ht : P.underlying t = some (.slice e)) (hz : ∀ w, (zeroValue e).run P w = .ok z w) (h1 : z.cells.toList.all (·.oneCell') = true) (hx : evA st.env x = .sl id off n) (hl : st.ob id = .live ob) (hn : 0 < n) (hfit : off + n * z.cells.size ≤ ob.cells.length)
  (hzl : zs.length = n * z.cells.size) (hzs : ∀ (j : Nat) (av : AV), zs[j]? = some av → ∃ u, (Builtin.zeroCells z.cells n).toList[j]? = some u ∧ Zed av u)
  (hsp : spl ob.cells off zs = cells') (h : K ⟨st.env, updO st.ob id (.live ⟨cells', ob.elem, ob.esz⟩)⟩) : AOp P E o st K := by
 subst hc
 rintro a w q ⟨C, hs⟩
 have hrx := hs.ev x hN
 rw [hx] at hrx
 generalize hux : a.eval x = ux at hrx
 cases hrx with
 | sl _ _ _ c b hdm hb hnc hm hss =>
  obtain ⟨hown, cur, hh, hcs, hle, hcell⟩ := hs.obj.live id ob b hl hb
  have hone : ∀ v ∈ (Builtin.zeroCells z.cells n).toList, v.oneCell' = true := by
   intro v hv
   simp only [Builtin.zeroCells, Array.toList_map, List.mem_map] at hv
   obtain ⟨i, hi, rfl⟩ := hv
   have hi' : i < n * z.cells.size := by simpa using hi
   have hpos : 0 < z.cells.size := by
    rcases Nat.eq_zero_or_pos z.cells.size with h0 | h0
    ·rw [h0] at hi'; simp at hi'
    ·exact h0
   have hlt : i % z.cells.size < z.cells.size := Nat.mod_lt _ hpos
   have := List.all_eq_true.1 h1 (z.cells[i % z.cells.size]) (by simp)
   simpa [hlt] using this
  have hlen : (Builtin.zeroCells z.cells n).toList.length = n * z.cells.size := zero_len _ _
  have hst := run_storeCells_at P b off ob.elem (Builtin.zeroCells z.cells n).toList 0 cur w hh (by rw [hlen]; omega) hone
  have hrun : (execOp a.eval o).run P w = .ok (.value (.tuple #[])) (w.setRow b (cur.toList.take off ++ (Builtin.zeroCells z.cells n).toList ++ cur.toList.drop (off + n * z.cells.size)).toArray) := by
   rw [hlen] at hst
   simp only [Nat.add_zero] at hst
   obtain ⟨m, rfl⟩ : ∃ m, n = m + 1 := ⟨n - 1, by omega⟩
   simp [execOp, ho, resolve, invoke, builtin, Builtin.clear_, hux, run_underlying ht, hz, hst]
  have hnew := hs.setOwn hl hb cells' (cur.toList.take off ++ (Builtin.zeroCells z.cells n).toList ++ cur.toList.drop (off + n * z.cells.size)).toArray (by simp [hlen]; omega) (by rw [← hsp]; have hq := hlen; simp [spl, hzl] at hq ⊢; omega) (by
   rw [← hsp]
   refine spl_cells hlen hzl hfit hle hcell (fun j av hj => ?_)
   obtain ⟨u, hu, hr⟩ := hzs j av hj
   exact ⟨u, hu, hone u (List.mem_of_getElem? hu), zed_R hr⟩) o.dst (fun d' hd' => by rw [hd] at hd'; cases hd') .any (.tuple #[]) (fun _ => .any _)
  unfold Oper.wp
  rw [hrun]
  refine ⟨_, ⟨_, hnew⟩, ?_⟩
  rw [hd]
  exact h
 | slnil _ hdm hb => omega
end
section
variable {α : Type} {e : α → List AV} {v : α}
theorem enc_rep_get {s : Nat} (hs : (e v).length = s) : ∀ (n j : Nat), j < n * s → (enc e (List.replicate n v))[j]? = (e v)[j % s]?
 | 0, j, h => by simp at h
 | n + 1, j, h => by
  rw [show enc e (List.replicate (n + 1) v) = e v ++ enc e (List.replicate n v) from rfl]
  rcases Nat.lt_or_ge j s with hj | hj
  ·rw [List.getElem?_append_left (by omega), Nat.mod_eq_of_lt hj]
  ·rw [List.getElem?_append_right (by omega), hs, enc_rep_get hs n (j - s) (by rw [Nat.succ_mul] at h; omega), ← Nat.mod_eq_sub_mod hj]
theorem zero_get {z : Array Value} {n j : Nat} (h : j < n * z.size) : ∃ u, (Builtin.zeroCells z n).toList[j]? = some u ∧ z[j % z.size]? = some u := by
 have hpos : 0 < z.size := by
  rcases Nat.eq_zero_or_pos z.size with h0 | h0
  ·rw [h0] at h; simp at h
  ·exact h0
 have hlt : j % z.size < z.size := Nat.mod_lt _ hpos
 refine ⟨z[j % z.size], ?_, by simp [hlt]⟩
 simp [Builtin.zeroCells, h, hlt]
theorem zeds_rep {z : Array Value} {n : Nat} (hs : (e v).length = z.size) (hz : ∀ (j : Nat) (av : AV) (u : Value), (e v)[j]? = some av → z[j]? = some u → Zed av u) :
  ∀ (j : Nat) (av : AV), (enc e (List.replicate n v))[j]? = some av → ∃ u, (Builtin.zeroCells z n).toList[j]? = some u ∧ Zed av u := by
 intro j av hj
 have hl : (enc e (List.replicate n v)).length = n * z.size := by
  clear hj
  induction n with
  | zero => simp [enc]
  | succ n ih => rw [show enc e (List.replicate (n + 1) v) = e v ++ enc e (List.replicate n v) from rfl, List.length_append, ih, hs, Nat.succ_mul]; omega
 have hlt : j < n * z.size := by have := (List.getElem?_eq_some_iff.1 hj).1; omega
 rw [enc_rep_get hs n j hlt] at hj
 obtain ⟨u, h1, h2⟩ := zero_get hlt
 exact ⟨u, h1, hz _ _ _ hj h2⟩
theorem clear_rowW {s : Nat} (hf : ∀ x, (e x).length = s) {l : List α} {i n : Nat} (h : i + n = l.length) : spl (enc e l) (0 + i * s) (enc e (List.replicate n v)) = enc e (l.take i ++ List.replicate n v) := by
 have hl : (enc e (List.replicate n v)).length = n * s := by rw [enc_length (f := e) (s := s) hf]; simp
 unfold spl
 rw [hl, Nat.zero_add, enc_take (f := e) (s := s) hf, enc_append, List.drop_of_length_le (by rw [enc_length (f := e) (s := s) hf, ← Nat.add_mul]; exact Nat.mul_le_mul_right _ (by omega)), List.append_nil]
end
theorem callN_ {P : Program} {E : Env0} {st : St} {K : St → Prop} {o : Oper} {c : Call} {cal : Operand} {args : List Operand} {tys : Array TypeId} {f d : Nat} {caps avs : List AV} {res res' : AV} {news news' : List LObj} (s : Nat) (hF : FnO P f avs res news)
  (ho : o.op = .call c) (hc : c = { callee := .value cal, args := args.toArray, argTypes := tys }) (hd : o.dst = some d) (hN : (okOp E.N cal && args.all (okOp E.N) && Nat.blt d E.N) = true)
  (hcal : evA st.env cal = .fn f caps) (hb : bodied P f = true) (hl : ∀ ob, Lends ob (args.map (evA st.env) ++ caps) avs) (hno : ∀ o, o ∈ news → NoIds o.cells)
  (hfree : ∀ i, i < news.length → st.ob (s + i) = .free) (hres : res.map (· + s) = res') (hnews : news = news')
  (h : K ⟨upd st.env d res', addO st.ob s news'⟩) : AOp P E o st K := by
 refine aop_callO (news' := news') s false ho hc hd hN hcal hb (hl _) (fun _ => hl _) hF (fun h => by cases h) hfree hres ?_ h
 subst hnews
 rw [List.map_congr_left (g := _root_.id) (fun o ho => ?_), List.map_id]
 have : AV.mapL (· + s) o.cells = o.cells := mapL_noId (hno o ho)
 show LObj.mk _ _ _ = o
 rw [this]
theorem newsN1 {o : LObj} [h : NoIL o.cells] : ∀ o' : LObj, o' ∈ [o] → NoIds o'.cells := fun o' ho => by
 rw [List.mem_singleton.1 ho]; exact h.out
end Go.Lo
