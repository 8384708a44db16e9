/- Calls that take objects over, in short forms; states under new names, whatever the number of objects. -/
import Derived.Test.YthfmdljohlolpaaLoJ
set_option linter.unusedVariables false
set_option linter.unusedSimpArgs false
namespace Go.Lo

/-! ### what a renaming leaves alone -/
theorem am_no {σ : Nat → Nat} {a : AV} [h : NoI a] : AV.map σ a = a := map_noId h.out
theorem lm_no {σ : Nat → Nat} {l : List AV} [h : NoIL l] : AV.mapL σ l = l := mapL_noId h.out
theorem lm_nil {σ : Nat → Nat} : AV.mapL σ [] = [] := rfl
theorem lm_cons {σ : Nat → Nat} {a a' : AV} {l l' : List AV} (h : AV.map σ a = a') (k : AV.mapL σ l = l') : AV.mapL σ (a :: l) = a' :: l' := by
  subst h
  subst k
  rfl
theorem am_agg {σ : Nat → Nat} {l l' : List AV} (h : AV.mapL σ l = l') : AV.map σ (.agg l) = .agg l' := by subst h; rfl
theorem am_tup {σ : Nat → Nat} {l l' : List AV} (h : AV.mapL σ l = l') : AV.map σ (.tup l) = .tup l' := by subst h; rfl
theorem am_fn {σ : Nat → Nat} {f : FuncId} {l l' : List AV} (h : AV.mapL σ l = l') : AV.map σ (.fn f l) = .fn f l' := by subst h; rfl
theorem om_ {σ : Nat → Nat} {cs cs' : List AV} {e z : Nat} (h : AV.mapL σ cs = cs') : LObj.map σ ⟨cs, e, z⟩ = ⟨cs', e, z⟩ := by subst h; rfl
theorem ok_no {p : Nat → Prop} {a : AV} [h : NoI a] : Ok p True a := h.out.mono (fun _ h => h.elim) id
theorem oks_no {p : Nat → Prop} {l : List AV} [h : NoIL l] : ∀ c, c ∈ l → Ok p True c := fun c hc => (h.out c hc).mono (fun _ h => h.elim) id

/-! ### states under new names -/
def mkOb : List ((Nat × Nat) × OSt) → (Nat → OSt) → (Nat → OSt)
  | [], f => f
  | q :: r, f => mkOb r (updO f q.1.2 q.2)
def RowOk (ps : List (Nat × Nat)) (s : St) (q : (Nat × Nat) × OSt) : Prop :=
  match q.2 with
  | .live o' => ∃ o, s.ob q.1.1 = .live o ∧ LObj.map (rn ps) o = o' ∧ ∀ c, c ∈ o.cells → Ok (· ∈ ps.map (·.1)) True c
  | .dead => True
  | .free => False
def RowsOk (ps : List (Nat × Nat)) (s : St) : List ((Nat × Nat) × OSt) → Prop
  | [] => True
  | q :: r => RowOk ps s q ∧ RowsOk ps s r
theorem rowsOk_mem {ps : List (Nat × Nat)} {s : St} : ∀ {qs : List ((Nat × Nat) × OSt)}, RowsOk ps s qs → ∀ q, q ∈ qs → RowOk ps s q
  | q :: r, h, x, hx => by
    rcases List.mem_cons.1 hx with rfl | hx
    · exact h.1
    · exact rowsOk_mem h.2 x hx
  | [], _, x, hx => by cases hx
theorem row_no {ps : List (Nat × Nat)} {s : St} {x y : Nat} {o o' : LObj} (hl : s.ob x = .live o) (ho : o' = o) [h : NoIL o.cells] : RowOk ps s ((x, y), .live o') := by
  subst ho
  exact ⟨o', hl, om_ lm_no, oks_no⟩
theorem row_map {ps : List (Nat × Nat)} {s : St} {x y : Nat} {o o' : LObj} (hl : s.ob x = .live o) (hm : LObj.map (rn ps) o = o') (hok : ∀ c, c ∈ o.cells → Ok (· ∈ ps.map (·.1)) True c) : RowOk ps s ((x, y), .live o') := ⟨o, hl, hm, hok⟩
theorem mkOb_get : ∀ (qs : List ((Nat × Nat) × OSt)) (f : Nat → OSt) (i : Nat), (qs.map (·.1.2)).Nodup → (∃ q, q ∈ qs ∧ q.1.2 = i ∧ mkOb qs f i = q.2) ∨ (i ∉ qs.map (·.1.2) ∧ mkOb qs f i = f i) := by
  intro qs
  induction qs with
  | nil => intro f i _; exact .inr ⟨by simp, rfl⟩
  | cons q r ih =>
    intro f i hn
    simp only [List.map_cons, List.nodup_cons] at hn
    simp only [mkOb]
    rcases ih (updO f q.1.2 q.2) i hn.2 with ⟨q', h1, h2, h3⟩ | ⟨h1, h2⟩
    · exact .inl ⟨q', List.mem_cons_of_mem _ h1, h2, h3⟩
    · by_cases he : i = q.1.2
      · subst he
        rw [updO_same] at h2
        exact .inl ⟨q, by simp, rfl, h2⟩
      · rw [updO_ne _ _ he] at h2
        exact .inr ⟨fun hm => by
          rcases List.mem_cons.1 hm with h3 | h3
          · exact he h3
          · exact h1 h3, h2⟩
theorem rnB_of {ps : List (Nat × Nat)} {x y : Nat} (hn1 : (ps.map (·.1)).Nodup) (hn2 : (ps.map (·.2)).Nodup) (h : (x, y) ∈ ps) : rnB ps y = some x := by
  have hm : x ∈ ps.map (·.1) := List.mem_map.2 ⟨_, h, rfl⟩
  have h2 := rn_back hn2 hm
  have : ∀ (l : List (Nat × Nat)), x ∈ l.map (·.1) → (x, rn l x) ∈ l := by
    intro l
    induction l with
    | nil => intro h; simp at h
    | cons p r ih =>
      obtain ⟨a, b⟩ := p
      intro hx
      simp only [rn]
      cases hb : Nat.beq x a with
      | true => rw [Nat.eq_of_beq_eq_true hb]; simp
      | false =>
        have : x ∈ r.map (·.1) := by
          rcases List.mem_cons.1 (by simpa using hx : x ∈ a :: r.map (·.1)) with h1 | h1
          · subst h1; simp at hb
          · exact h1
        exact List.mem_cons_of_mem _ (ih this)
  rw [same_fst hn1 (this ps hm) h] at h2
  exact h2
theorem lerL {s : St} {e' : Nat → AV} (ps : List (Nat × Nat)) (qs : List ((Nat × Nat) × OSt)) (hps : qs.map (·.1) = ps) (hn1 : (ps.map (·.1)).Nodup) (hn2 : (ps.map (·.2)).Nodup) (hq : RowsOk ps s qs) (he : ∀ t, SlotR ps (s.env t) (e' t)) :
    LeR ps s ⟨e', mkOb qs noOb⟩ := by
  subst hps
  have hn2' : (qs.map (·.1.2)).Nodup := by rw [List.map_map] at hn2; exact hn2
  refine ⟨hn1, hn2, he, fun id' o' h => ?_, fun id' h => ?_⟩
  · rcases mkOb_get qs noOb id' hn2' with ⟨q, h1, h2, h3⟩ | ⟨_, h2⟩
    · have hr := rowsOk_mem hq q h1
      have h4 : q.2 = .live o' := by rw [← h3]; exact h
      unfold RowOk at hr
      rw [h4] at hr
      obtain ⟨o, k1, k2, k3⟩ := hr
      subst k2
      have hp : (q.1.1, id') ∈ qs.map (·.1) := List.mem_map.2 ⟨q, h1, by rw [← h2]⟩
      exact ⟨q.1.1, o, hp, rnB_of hn1 hn2 hp, k1, rfl, rfl, .inr ⟨rfl, k3⟩⟩
    · rw [show mkOb qs noOb id' = OSt.live o' from h] at h2
      cases h2
  · intro hf
    rcases mkOb_get qs noOb id' hn2' with ⟨q, h1, h2, h3⟩ | ⟨h1, _⟩
    · have hr := rowsOk_mem hq q h1
      have h4 : q.2 = .free := by rw [← h3]; exact hf
      unfold RowOk at hr
      rw [h4] at hr
      exact hr
    · rw [List.map_map] at h
      exact h1 h

/-! ### calls that take over -/
def Givs (ob : Nat → OSt) (gs : List Nat) : List Nat → List LObj → Prop
  | [], [] => True
  | g :: r, o' :: r' => (∃ o, ob g = .live o ∧ LObj.map (ix gs) o = o' ∧ ∀ c, c ∈ o.cells → Ok (· ∈ gs) True c) ∧ Givs ob gs r r'
  | _, _ => False
theorem giv_no {ob : Nat → OSt} {gs : List Nat} {g : Nat} {o o' : LObj} (hl : ob g = .live o) (ho : o' = o) [h : NoIL o.cells] : ∃ o, ob g = .live o ∧ LObj.map (ix gs) o = o' ∧ ∀ c, c ∈ o.cells → Ok (· ∈ gs) True c := by
  subst ho
  exact ⟨o', hl, om_ lm_no, oks_no⟩
theorem giv_map {ob : Nat → OSt} {gs : List Nat} {g : Nat} {o o' : LObj} (hl : ob g = .live o) (hm : LObj.map (ix gs) o = o') (hok : ∀ c, c ∈ o.cells → Ok (· ∈ gs) True c) : ∃ o, ob g = .live o ∧ LObj.map (ix gs) o = o' ∧ ∀ c, c ∈ o.cells → Ok (· ∈ gs) True c := ⟨o, hl, hm, hok⟩
theorem givs_len {ob : Nat → OSt} {gs : List Nat} : ∀ {l : List Nat} {giv : List LObj}, Givs ob gs l giv → giv.length = l.length
  | [], [], _ => rfl
  | g :: r, o :: r', h => by simp [givs_len h.2]
  | [], _ :: _, h => h.elim
  | _ :: _, [], h => h.elim
theorem givs_get {ob : Nat → OSt} {gs : List Nat} : ∀ {l : List Nat} {giv : List LObj}, Givs ob gs l giv → ∀ (i id : Nat), l[i]? = some id → ∃ o : LObj, ob id = .live o ∧ giv[i]? = some (LObj.map (ix gs) o) ∧ ∀ c, c ∈ o.cells → Ok (· ∈ gs) True c
  | [], [], _, i, id, h => by simp at h
  | g :: r, o' :: r', h, 0, id, hi => by
    simp at hi
    subst hi
    obtain ⟨o, h1, h2, h3⟩ := h.1
    exact ⟨o, h1, by rw [h2]; rfl, h3⟩
  | g :: r, o' :: r', h, i + 1, id, hi => by
    obtain ⟨o, h1, h2, h3⟩ := givs_get h.2 i id (by simpa using hi)
    exact ⟨o, h1, by simpa using h2, h3⟩
  | [], _ :: _, h, _, _, _ => h.elim
  | _ :: _, [], h, _, _, _ => h.elim
def Frees (ob : Nat → OSt) : List Nat → Prop
  | [] => True
  | n :: r => ob n = .free ∧ Frees ob r
theorem frees_get {ob : Nat → OSt} : ∀ {l : List Nat}, Frees ob l → ∀ id, id ∈ l → ob id = .free
  | n :: r, h, x, hx => by
    rcases List.mem_cons.1 hx with rfl | hx
    · exact h.1
    · exact frees_get h.2 x hx
  | [], _, x, hx => by cases hx
theorem arg_no {ob : Nat → OSt} {gs : List Nat} {lend : Bool} {a : AV} [h : NoI a] : ArgG ob gs lend a a := .inl ⟨ok_no, am_no⟩
theorem arg_own {ob : Nat → OSt} {gs : List Nat} {lend : Bool} {a b : AV} (h : Ok (· ∈ gs) True a) (k : a.map (ix gs) = b) : ArgG ob gs lend a b := .inl ⟨h, k⟩
theorem arg_lent {ob : Nat → OSt} {gs : List Nat} {a b : AV} (h : Lend ob a b) [k : NoI b] : ArgG ob gs true a b := .inr ⟨rfl, h, k.out⟩
theorem place_nil {σ : Nat → Nat} {f : Nat → OSt} : placeO σ [] [] f = f := rfl
theorem place_cons {σ : Nat → Nat} {n : Nat} {ns : List Nat} {o o' : OSt} {os : List OSt} {f f' : Nat → OSt} (h : o.map σ = o') (k : placeO σ ns os (updO f n o') = f') : placeO σ (n :: ns) (o :: os) f = f' := by
  subst h
  exact k
theorem ost_no {σ : Nat → Nat} {cs : List AV} {e z : Nat} [h : NoIL cs] : OSt.map σ (.live ⟨cs, e, z⟩) = .live ⟨cs, e, z⟩ := by
  show OSt.live _ = _
  rw [om_ lm_no]
theorem ost_map {σ : Nat → Nat} {cs cs' : List AV} {e z : Nat} (h : AV.mapL σ cs = cs') : OSt.map σ (.live ⟨cs, e, z⟩) = .live ⟨cs', e, z⟩ := by
  show OSt.live _ = _
  rw [om_ h]
/-- No slice, no pointer of what is only read in what comes back. -/
def NoRos : List OSt → Prop
  | [] => True
  | .live o :: r => (∀ c, c ∈ o.cells → Ok (fun _ => True) False c) ∧ NoRos r
  | _ :: r => NoRos r
theorem noRos_get : ∀ {os : List OSt}, NoRos os → ∀ (i : Nat) (o : LObj), os[i]? = some (.live o) → ∀ c, c ∈ o.cells → Ok (fun _ => True) False c
  | [], _, i, o, h => by simp at h
  | .live x :: r, h, 0, o, hi => by simp at hi; subst hi; exact h.1
  | .live x :: r, h, i + 1, o, hi => noRos_get h.2 i o (by simpa using hi)
  | .dead :: r, h, 0, o, hi => by simp at hi
  | .dead :: r, h, i + 1, o, hi => noRos_get (os := r) h i o (by simpa using hi)
  | .free :: r, h, 0, o, hi => by simp at hi
  | .free :: r, h, i + 1, o, hi => noRos_get (os := r) h i o (by simpa using hi)

section
variable {P : Program} {E : Env0} {st : St} {K : St → Prop}
theorem callG_ {o : Oper} {c : Call} {cal : Operand} {args : List Operand} {tys : Array TypeId} {f d : Nat} {caps avs : List AV} {giv : List LObj} {res res' : AV} {os : List OSt} {ob' : Nat → OSt} (lend : Bool) (gs new : List Nat) (hF : FnGO P f giv avs res os)
    (ho : o.op = .call c) (hc : c = { callee := .value cal, args := args.toArray, argTypes := tys }) (hd : o.dst = some d) (hN : (okOp E.N cal && args.all (okOp E.N) && Nat.blt d E.N) = true)
    (hcal : evA st.env cal = .fn f caps) (hb : bodied P f = true) (hnd : (gs ++ new).Nodup) (hgiv : Givs st.ob gs gs giv) (hl : ArgsG (killO gs st.ob) gs lend (args.map (evA st.env) ++ caps) avs) (hlen : os.length = (gs ++ new).length) (hfree : Frees st.ob new)
    (hro : lend = true → Ok (fun _ => True) False res ∧ NoRos os) (hres : res.map (nm (gs ++ new)) = res') (hos : placeO (nm (gs ++ new)) (gs ++ new) os st.ob = ob') (h : K ⟨upd st.env d res', ob'⟩) : AOp P E o st K := by
  rw [Bool.and_eq_true] at hN
  subst hres
  subst hos
  refine aop_callG0 lend gs ho hc hN.1 (fun d' hd' => by rw [hd] at hd'; cases hd'; exact blt_lt hN.2) hcal hb (List.nodup_append.1 hnd).1 (givs_len hgiv) (givs_get hgiv) hl hF ?_
  rintro r n ⟨rfl, rfl⟩
  refine ⟨new, hnd, hlen, frees_get hfree, fun hle => ⟨(hro hle).1, noRos_get (hro hle).2⟩, ?_⟩
  rw [hd]
  exact h
/-- A call without a result that anybody takes. -/
theorem callG0_ {o : Oper} {c : Call} {cal : Operand} {args : List Operand} {tys : Array TypeId} {f : Nat} {caps avs : List AV} {giv : List LObj} {res : AV} {os : List OSt} {ob' : Nat → OSt} (lend : Bool) (gs new : List Nat) (hF : FnGO P f giv avs res os)
    (ho : o.op = .call c) (hc : c = { callee := .value cal, args := args.toArray, argTypes := tys }) (hd : o.dst = none) (hN : (okOp E.N cal && args.all (okOp E.N)) = true)
    (hcal : evA st.env cal = .fn f caps) (hb : bodied P f = true) (hnd : (gs ++ new).Nodup) (hgiv : Givs st.ob gs gs giv) (hl : ArgsG (killO gs st.ob) gs lend (args.map (evA st.env) ++ caps) avs) (hlen : os.length = (gs ++ new).length) (hfree : Frees st.ob new)
    (hro : lend = true → Ok (fun _ => True) False res ∧ NoRos os) (hos : placeO (nm (gs ++ new)) (gs ++ new) os st.ob = ob') (h : K ⟨st.env, ob'⟩) : AOp P E o st K := by
  subst hos
  refine aop_callG0 lend gs ho hc hN (fun d' hd' => by rw [hd] at hd'; cases hd') hcal hb (List.nodup_append.1 hnd).1 (givs_len hgiv) (givs_get hgiv) hl hF ?_
  rintro r n ⟨rfl, rfl⟩
  refine ⟨new, hnd, hlen, frees_get hfree, fun hle => ⟨(hro hle).1, noRos_get (hro hle).2⟩, ?_⟩
  rw [hd]
  exact h
end
theorem fretG {ts : List Nat} {N m : Nat} {s : St} {res : AV} {os : List OSt} (hN : (ts.all fun t => Nat.blt t N) = true) (hm : Nat.ble m os.length = true) (hr : mkA (ts.map s.env) = res) (hob : s.ob = obG 0 os noOb) : RetOkG ts m (fun r o => r = res ∧ o = os) N s :=
  ⟨os, hN, Nat.le_of_ble_eq_true hm, ⟨hr, rfl⟩, hob⟩
end Go.Lo
