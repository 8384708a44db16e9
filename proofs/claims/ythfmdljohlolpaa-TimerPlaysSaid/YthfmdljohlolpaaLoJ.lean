/- Calls to which objects of one's own are handed over: they keep their names; what is new is named behind them. -/
import Derived.Test.YthfmdljohlolpaaLoI
set_option linter.unusedVariables false
set_option linter.unusedSimpArgs false
namespace Go.Lo

def OSt.map (σ : Nat → Nat) : OSt → OSt
  | .live o => .live (o.map σ)
  | .dead => .dead
  | .free => .free
def obG : Nat → List OSt → (Nat → OSt) → (Nat → OSt)
  | _, [], f => f
  | k, o :: r, f => obG (k + 1) r (updO f k o)
theorem obG_get : ∀ (os : List OSt) (k : Nat) (f : Nat → OSt) (i : Nat), obG k os f i = if k ≤ i ∧ i < k + os.length then (os[i - k]?).getD .free else f i := by
  intro os
  induction os with
  | nil => intro k f i; simp [obG]; omega
  | cons o r ih =>
    intro k f i
    simp only [obG, ih, List.length_cons]
    by_cases h : i = k
    · subst h
      rw [if_neg (by omega), updO_same, if_pos (by omega)]
      simp
    · rw [updO_ne _ _ h]
      by_cases h1 : k + 1 ≤ i ∧ i < k + 1 + r.length
      · rw [if_pos h1, if_pos (by omega), show i - k = (i - (k + 1)) + 1 by omega, List.getElem?_cons_succ]
      · rw [if_neg h1, if_neg (by omega)]
theorem obG_live {os : List OSt} {i : Nat} {o : LObj} (h : obG 0 os noOb i = .live o) : os[i]? = some (.live o) := by
  rw [obG_get] at h
  split at h
  · rename_i hi
    rw [Nat.sub_zero] at h
    rw [List.getElem?_eq_getElem (by omega)] at h ⊢
    simpa using h
  · cases h
theorem obG_some {os : List OSt} {i : Nat} {x : OSt} (h : os[i]? = some x) : obG 0 os noOb i = x := by
  have := (List.getElem?_eq_some_iff.1 h).1
  rw [obG_get, if_pos (by omega), Nat.sub_zero, h]
  rfl
def placeO (σ : Nat → Nat) : List Nat → List OSt → (Nat → OSt) → (Nat → OSt)
  | n :: ns, o :: os, f => placeO σ ns os (updO f n (o.map σ))
  | _, _, f => f
theorem ix_of {ns : List Nat} (hn : ns.Nodup) {i x : Nat} (h : ns[i]? = some x) : ix ns x = i := by
  have hm := List.mem_of_getElem? h
  have h2 := ix_get hm
  obtain ⟨l1, m1⟩ := List.getElem?_eq_some_iff.1 h
  obtain ⟨l2, m2⟩ := List.getElem?_eq_some_iff.1 h2
  exact ((List.getElem_inj (h₀ := l1) (h₁ := l2) hn).1 (m1.trans m2.symm)).symm
theorem placeO_get (σ : Nat → Nat) : ∀ (ns : List Nat) (os : List OSt) (f : Nat → OSt) (id : Nat), ns.Nodup → os.length = ns.length → placeO σ ns os f id = if id ∈ ns then ((os[ix ns id]?).map (OSt.map σ)).getD .free else f id := by
  intro ns
  induction ns with
  | nil => intro os f id _ _; simp [placeO]
  | cons n ns ih =>
    intro os f id hn hl
    match os, hl with
    | o :: os, hl =>
      simp only [placeO]
      rw [ih os _ id (List.nodup_cons.1 hn).2 (by simpa using hl)]
      by_cases he : id = n
      · subst he
        rw [if_neg (List.nodup_cons.1 hn).1, updO_same]
        simp [ix]
      · have hb : Nat.beq id n = false := by
          cases hb : Nat.beq id n with
          | false => rfl
          | true => exact absurd (Nat.eq_of_beq_eq_true hb) he
        rw [updO_ne _ _ he]
        simp [he, ix, hb]
def killO : List Nat → (Nat → OSt) → (Nat → OSt)
  | [], f => f
  | g :: gs, f => killO gs (updO f g .dead)
theorem killO_get : ∀ (gs : List Nat) (f : Nat → OSt) (id : Nat), killO gs f id = if id ∈ gs then .dead else f id := by
  intro gs
  induction gs with
  | nil => intro f id; simp [killO]
  | cons g gs ih =>
    intro f id
    simp only [killO, ih]
    by_cases he : id = g
    · subst he; simp [updO_same]
    · rw [updO_ne _ _ he]; simp [he]
def nm (ns : List Nat) (i : Nat) : Nat := ns.getD i 0

def FnPostG (w : World) (G X : Nat → Prop) (m : Nat) (C : Ctx) (post : AV → List OSt → Prop) (e : Ending) (w' : World) : Prop :=
  ∃ v C' res os, e = .returned v ∧ m ≤ os.length ∧ post res os ∧ Fr G w w' ∧ R w' C' res v ∧ ObjR w' C' (obG 0 os noOb) ∧ (∀ i, i < m → C'.dom i ∧ C'.blk i = C.blk i ∧ C'.sz i = C.sz i ∧ C'.esz i = C.esz i) ∧
    (∀ i o b, obG 0 os noOb i = .live o → C'.blk i = some b → w.heap.size ≤ b ∨ G b) ∧ (∀ b, X b → C'.own b) ∧ (∀ b, b < w.heap.size → C'.own b → X b ∨ G b)
/-- What a function does to which objects are handed over: 'giv', named from 0 on. -/
def FnG (P : Program) (f : FuncId) (giv : List LObj) (args : List AV) (post : AV → List OSt → Prop) : Prop :=
  ∀ (w : World) (C : Ctx) (vs : Array Value), vs.size = args.length → ObjR w C (obG 0 (giv.map .live) noOb) → Laid w C.own → (∀ j av, args[j]? = some av → R w C av (vs.getD j undef)) →
    Calls P f vs w (FnPostG w (fun b => ∃ i, i < giv.length ∧ C.blk i = some b) C.own giv.length C post)
def FnGO (P : Program) (f : FuncId) (giv : List LObj) (args : List AV) (res : AV) (os : List OSt) : Prop := FnG P f giv args (fun r o => r = res ∧ o = os)

def RetOkG (ts : List Nat) (m : Nat) (post : AV → List OSt → Prop) (N : Nat) (s : St) : Prop :=
  ∃ os, (ts.all fun t => Nat.blt t N) = true ∧ m ≤ os.length ∧ post (mkA (ts.map s.env)) os ∧ s.ob = obG 0 os noOb
def retQG (ts : List Nat) (m : Nat) (post : AV → List OSt → Prop) (N : Nat) (e : Exit) (s : St) : Prop :=
  match e with
  | .normal | .ret => RetOkG ts m post N s
  | _ => False

theorem fnG_of_body {P : Program} {f : FuncId} {fn : Func} {c : Code} {N : Nat} {ts : List Nat} {giv : List LObj} {args : List AV} {post : AV → List OSt → Prop} (m : Nat) (hm : giv.length = m) (hf : P.funcs[f]? = some fn) (hb : fn.body = some c) (hN : fn.ntmps = N) (hres : ResOf P fn ts) (hargs : args.length ≤ N)
    (h : ∀ w0 G C hL hLG, AWP P ⟨w0, G, C.own, N, m, C, hL, hLG⟩ c ⟨envOf args, obG 0 (giv.map .live) noOb⟩ (retQG ts m post N)) : FnG P f giv args post := by
  subst hm
  intro w C vs hsz hobj hL hrel
  refine calls_of_wp hf hb ?_
  have hLG : LaidG (fun b => ∃ i, i < giv.length ∧ C.blk i = some b) := fun q hq ⟨i, hi, hb⟩ => (hL q hq).2.1 (hobj.live i giv[i] q.1 (obG_some (by simp [hi])) hb).1
  have hs : SR ⟨w, fun b => ∃ i, i < giv.length ∧ C.blk i = some b, C.own, N, giv.length, C, hL, hLG⟩ C ⟨envOf args, obG 0 (giv.map .live) noOb⟩ { tmps := vs ++ Array.replicate (fn.ntmps - vs.size) undef, defers := [] } w := by
    refine ⟨by simp; omega, rfl, fun t ht => ?_, hobj, Fr.refl _ _, (fun id o b h hb => ?_), fun b h => h, fun b _ h => .inl h, fun i hi => ?_, hobj.bnd⟩
    · show R w C (envOf args t) _
      rw [envOf_get]
      by_cases hta : t < args.length
      · rw [List.getElem?_eq_getElem hta]
        have := hrel t _ (List.getElem?_eq_getElem hta)
        have e : (vs ++ Array.replicate (fn.ntmps - vs.size) undef).getD t undef = vs.getD t undef := by
          simp [Array.getElem?_append_left, show t < vs.size by omega]
        rw [e]
        exact this
      · rw [List.getElem?_eq_none (by omega)]
        exact .any _
    · have := obG_live h
      rw [List.getElem?_map, Option.map_eq_some_iff] at this
      obtain ⟨o', h1, _⟩ := this
      exact .inr ⟨id, (List.getElem?_eq_some_iff.1 h1).1, hb⟩
    · have hi' : i < giv.length := hi
      have : obG 0 (giv.map .live) noOb i = .live giv[i] := obG_some (by simp [hi'])
      exact ⟨(hobj.nil i _ this).1, rfl, rfl, rfl⟩
  refine wp_mono (h w _ C hL hLG _ w ⟨_, hs⟩) ?_
  rintro e a' w' ⟨s, ⟨C', hs'⟩, hq⟩
  have key : RetOkG ts giv.length post N s → bodyPost P fn (FnPostG w (fun b => ∃ i, i < giv.length ∧ C.blk i = some b) C.own giv.length C post) .ret a' w' := by
    rintro ⟨os, htN, hml, hpost, hob⟩
    refine ⟨hs'.defers, _, hres a'.tmps w', ?_⟩
    have hR : R w' C' (mkA (ts.map s.env)) (mkV (ts.map fun t => a'.tmps.getD t undef)) := R_mk (by simp) (fun j av hj => by
      rw [List.getElem?_map, Option.map_eq_some_iff] at hj
      obtain ⟨t, hj, rfl⟩ := hj
      have ht := List.all_eq_true.1 htN t (List.mem_of_getElem? hj)
      have := hs'.env t (blt_lt ht)
      simpa [hj] using this)
    refine ⟨_, C', _, os, rfl, hml, hpost, hs'.fr, hR, by rw [← hob]; exact hs'.obj, hs'.init, fun i o b h hb => ?_, hs'.keep, fun b hb ho => hs'.newown b hb ho⟩
    exact hs'.fresh i o b (by rw [hob]; exact h) hb
  cases e with
  | normal => exact key hq
  | ret => exact key hq
  | _ => exact hq.elim

theorem SR.kill {E : Env0} {C : Ctx} {st : St} {a : Act} {w : World} (h : SR E C st a w) (gs : List Nat) : SR E C ⟨st.env, killO gs st.ob⟩ a w := by
  have hlive : ∀ id o, killO gs st.ob id = .live o → st.ob id = .live o := fun id o ho => by
    rw [killO_get] at ho
    split at ho
    · cases ho
    · exact ho
  refine ⟨h.size, h.defers, h.env, ⟨fun id o ho => h.obj.nil id o (hlive id o ho), fun id o b ho hb => h.obj.live id o b (hlive id o ho) hb,
    fun id id' o o' b h1 h2 h3 h4 => h.obj.inj id id' o o' b (hlive _ _ h1) (hlive _ _ h2) h3 h4, fun id hd => ?_, h.obj.bnd⟩, h.fr, fun id o b ho hb => h.fresh id o b (hlive id o ho) hb, h.keep, h.newown, h.init, h.xbnd⟩
  show killO gs st.ob id ≠ _
  rw [killO_get]
  split
  · intro h; cases h
  · exact h.obj.dom id hd

/-- An argument of such a call: of what is handed over; or lent. -/
def ArgG (ob : Nat → OSt) (gs : List Nat) (lend : Bool) (a b : AV) : Prop := (Ok (· ∈ gs) True a ∧ a.map (ix gs) = b) ∨ (lend = true ∧ Lend ob a b ∧ NoId b)
def ArgsG (ob : Nat → OSt) (gs : List Nat) (lend : Bool) : List AV → List AV → Prop
  | [], [] => True
  | a :: as, b :: bs => ArgG ob gs lend a b ∧ ArgsG ob gs lend as bs
  | _, _ => False
theorem argsG_len {ob : Nat → OSt} {gs : List Nat} {lend : Bool} : ∀ {as bs : List AV}, ArgsG ob gs lend as bs → bs.length = as.length
  | [], [], _ => rfl
  | a :: as, b :: bs, h => by simp [argsG_len h.2]
  | [], _ :: _, h => h.elim
  | _ :: _, [], h => h.elim
theorem argsG_get {ob : Nat → OSt} {gs : List Nat} {lend : Bool} : ∀ {as bs : List AV}, ArgsG ob gs lend as bs → ∀ (j : Nat) (a b : AV), as[j]? = some a → bs[j]? = some b → ArgG ob gs lend a b
  | [], [], _, j, a, b, h1, _ => by simp at h1
  | a :: as, b :: bs, h, 0, x, y, h1, h2 => by simp at h1 h2; subst h1; subst h2; exact h.1
  | a :: as, b :: bs, h, j + 1, x, y, h1, h2 => argsG_get h.2 j x y (by simpa using h1) (by simpa using h2)
  | [], _ :: _, h, _, _, _, _, _ => h.elim
  | _ :: _, [], h, _, _, _, _, _ => h.elim

section
variable {P : Program} {E : Env0} {st : St} {K : St → Prop}

def Cgive (C C' : Ctx) (ns new : List Nat) : Ctx where
  blk := fun id => if id ∈ ns then C'.blk (ix ns id) else C.blk id
  sz := fun id => if id ∈ ns then C'.sz (ix ns id) else C.sz id
  esz := fun id => if id ∈ ns then C'.esz (ix ns id) else C.esz id
  dom := fun id => C.dom id ∨ (id ∈ new ∧ C'.dom (ix ns id))
  own := fun b => C.own b ∨ C'.own b

theorem SR.backG {C C' : Ctx} {a : Act} {w w' : World} (hs : SR E C st a w) {G X : Nat → Prop} {gs new : List Nat} {res : AV} {os : List OSt} {v : Value}
    (hnd : (gs ++ new).Nodup) (hlen : os.length = (gs ++ new).length) (hXo : ∀ b, X b → C.own b) (hGg : ∀ b, G b → ∃ id, id ∈ gs ∧ C.blk id = some b) (hgl : ∀ id, id ∈ gs → ∃ o, st.ob id = .live o)
    (hfr : Fr G w w') (hR : R w' C' res v) (hobj : ObjR w' C' (obG 0 os noOb)) (hkp : ∀ i id, gs[i]? = some id → C'.dom i ∧ C'.blk i = C.blk id ∧ C'.sz i = C.sz id ∧ C'.esz i = C.esz id)
    (hnew : ∀ i o b, obG 0 os noOb i = .live o → C'.blk i = some b → w.heap.size ≤ b ∨ G b) (hkeep : ∀ b, X b → C'.own b) (hold : ∀ b, b < w.heap.size → C'.own b → X b ∨ G b) (hfree : ∀ id, id ∈ new → st.ob id = .free)
    (hro : (∀ b, C.own b → X b) ∨ (Ok (fun _ => True) False res ∧ ∀ (i : Nat) (o : LObj), os[i]? = some (.live o) → ∀ c, c ∈ o.cells → Ok (fun _ => True) False c))
    (dst : Option Nat) (hd : ∀ d, dst = some d → d < E.N) :
    SR E (Cgive C C' (gs ++ new) new) (St.put ⟨st.env, placeO (nm (gs ++ new)) (gs ++ new) os st.ob⟩ dst (res.map (nm (gs ++ new)))) (a.put dst v) w' := by
  have hGown : ∀ b, G b → ∃ id o, id ∈ gs ∧ st.ob id = .live o ∧ C.blk id = some b ∧ C.own b := fun b hb => by
    obtain ⟨id, h1, h2⟩ := hGg b hb
    obtain ⟨o, h3⟩ := hgl id h1
    exact ⟨id, o, h1, h3, h2, (hs.obj.live id o b h3 h2).1⟩
  have hnotnew : ∀ id, C.dom id → id ∉ new := fun id hid hin => hs.obj.dom id hid (hfree id hin)
  have hixg : ∀ id, id ∈ gs → ∃ i, gs[i]? = some id ∧ ix (gs ++ new) id = i := fun id hid => by
    obtain ⟨i, hi⟩ := List.mem_iff_getElem?.1 hid
    exact ⟨i, hi, ix_of hnd (by rw [List.getElem?_append_left (List.getElem?_eq_some_iff.1 hi).1]; exact hi)⟩
  have hext : Ext w C w' (Cgive C C' (gs ++ new) new) := by
    refine ⟨fun id hid => ?_, fun b hb ho h => ?_, fun b hb ho => hfr.block b hb (fun h => ?_)⟩
    · by_cases hin : id ∈ gs ++ new
      · have hg : id ∈ gs := by
          rcases List.mem_append.1 hin with h | h
          · exact h
          · exact absurd h (hnotnew id hid)
        obtain ⟨i, h1, h2⟩ := hixg id hg
        obtain ⟨k1, k2, k3, k4⟩ := hkp i id h1
        simp only [Cgive, if_pos hin, h2]
        exact ⟨.inl hid, k2, k3, k4⟩
      · exact ⟨.inl hid, if_neg hin, if_neg hin, if_neg hin⟩
    · rcases h with h | h
      · exact ho h
      · rcases hold b hb h with h | h
        · exact ho (hXo b h)
        · obtain ⟨_, _, _, _, _, h⟩ := hGown b h
          exact ho h
    · obtain ⟨_, _, _, _, _, h⟩ := hGown b h
      exact ho h
  obtain ⟨ro, hroI, hown⟩ : ∃ ro : Prop, (Ok (fun _ => True) ro res ∧ ∀ (i : Nat) (o : LObj), os[i]? = some (.live o) → ∀ c, c ∈ o.cells → Ok (fun _ => True) ro c) ∧ (ro → ∀ b, ¬ C'.own b → ¬ (Cgive C C' (gs ++ new) new).own b) := by
    rcases hro with h | h
    · refine ⟨True, ⟨ok_true hR trivial, fun i o ho c hc => ?_⟩, fun _ b hb h2 => ?_⟩
      · have hl := obG_some ho
        obtain ⟨j, hj⟩ := List.mem_iff_getElem?.1 hc
        cases hb : C'.blk i with
        | none =>
          have := (hobj.nil i o hl).2.2 hb
          rw [this] at hc; cases hc
        | some b =>
          obtain ⟨_, cur, _, _, _, h5⟩ := hobj.live i o b hl hb
          obtain ⟨u, _, _, hr⟩ := h5 j c hj
          exact ok_true hr trivial
      · rcases h2 with h2 | h2
        · exact hb (hkeep b (h b h2))
        · exact hb h2
    · exact ⟨False, h, fun h => h.elim⟩
  have hdom : ∀ i, C'.dom i → i < (gs ++ new).length := fun i hi => by
    rcases Nat.lt_or_ge i (gs ++ new).length with h | h
    · exact h
    · have := hobj.dom i hi
      rw [obG_get, if_neg (by omega)] at this
      exact absurd rfl this
  have hid : ∀ i, True → C'.dom i → (Cgive C C' (gs ++ new) new).dom (nm (gs ++ new) i) ∧ (Cgive C C' (gs ++ new) new).blk (nm (gs ++ new) i) = C'.blk i ∧ (Cgive C C' (gs ++ new) new).sz (nm (gs ++ new) i) = C'.sz i ∧ (Cgive C C' (gs ++ new) new).esz (nm (gs ++ new) i) = C'.esz i := fun i _ hi => by
    have hil := hdom i hi
    have hg : (gs ++ new)[i]? = some (nm (gs ++ new) i) := by rw [nm, List.getD_eq_getElem?_getD, List.getElem?_eq_getElem hil]; rfl
    have hm := List.mem_of_getElem? hg
    have hx := ix_of hnd hg
    simp only [Cgive, if_pos hm, hx, and_self, and_true]
    rcases List.mem_append.1 hm with h | h
    · obtain ⟨o, ho⟩ := hgl _ h
      exact .inl (hs.obj.nil _ o ho).1
    · exact .inr ⟨h, hi⟩
  have hlive : ∀ i o, placeO (nm (gs ++ new)) (gs ++ new) os st.ob i = .live o → (i ∈ gs ++ new ∧ ∃ o0, os[ix (gs ++ new) i]? = some (.live o0) ∧ o = LObj.map (nm (gs ++ new)) o0) ∨ (i ∉ gs ++ new ∧ st.ob i = .live o) := fun i o h => by
    rw [placeO_get _ _ _ _ _ hnd hlen] at h
    by_cases hin : i ∈ gs ++ new
    · rw [if_pos hin] at h
      refine .inl ⟨hin, ?_⟩
      cases hx : os[ix (gs ++ new) i]? with
      | none => rw [hx] at h; cases h
      | some x =>
        rw [hx] at h
        cases x with
        | live o0 => simp [OSt.map] at h; exact ⟨o0, rfl, h.symm⟩
        | dead => cases h
        | free => cases h
    · rw [if_neg hin] at h
      exact .inr ⟨hin, h⟩
  have hnG : ∀ i o b, i ∉ gs ++ new → st.ob i = .live o → C.blk i = some b → ¬ G b := fun i o b hin ho hb hG => by
    obtain ⟨id, o2, h1, h2, h3, _⟩ := hGown b hG
    have := hs.obj.inj i id o o2 b ho h2 hb h3
    subst this
    exact hin (List.mem_append.2 (.inl h1))
  refine hs.put hext _ ⟨fun i o h => ?_, fun i o b h hb => ?_, fun i i' o1 o2 b h1 h2 h3 h4 => ?_, fun i hi => ?_, fun b hb => ?_⟩
    ⟨hfr.os.trans hs.fr.os, hfr.tape.trans hs.fr.tape, hfr.output.trans hs.fr.output, Nat.le_trans hs.fr.size hfr.size, fun b hb hg => ?_⟩ (fun i o b h hb => ?_) (fun b hb => .inl (hs.keep b hb)) (fun b hb ho => ?_) dst hd _ v (fun _ => R.map hid hown hR hroI.1)
  · rcases hlive i o h with ⟨hin, o0, h1, rfl⟩ | ⟨hin, h'⟩
    · obtain ⟨k1, k2, k3⟩ := hobj.nil _ o0 (obG_some h1)
      refine ⟨?_, by simp only [Cgive, if_pos hin, LObj.map, k2], fun hb => ?_⟩
      · rcases List.mem_append.1 hin with h | h
        · obtain ⟨o, ho⟩ := hgl _ h
          exact .inl (hs.obj.nil _ o ho).1
        · exact .inr ⟨h, k1⟩
      · simp only [Cgive, if_pos hin] at hb
        simp [LObj.map, k3 hb, AV.mapL]
    · obtain ⟨k1, k2, k3⟩ := hs.obj.nil i o h'
      exact ⟨.inl k1, by simp only [Cgive, if_neg hin, k2], fun hb => k3 (by simpa only [Cgive, if_neg hin] using hb)⟩
  · rcases hlive i o h with ⟨hin, o0, h1, rfl⟩ | ⟨hin, h'⟩
    · simp only [Cgive, if_pos hin] at hb
      obtain ⟨k1, cur, k2, k3, k4, k5⟩ := hobj.live _ o0 b (obG_some h1) hb
      refine ⟨.inr k1, cur, k2, by simp only [Cgive, if_pos hin, k3], by simp only [Cgive, if_pos hin, LObj.map, mapL_eq, List.length_map]; exact k4, fun j av hj => ?_⟩
      simp only [LObj.map, mapL_eq, List.getElem?_map, Option.map_eq_some_iff] at hj
      obtain ⟨c, hj, rfl⟩ := hj
      obtain ⟨u, hu, k6, k7⟩ := k5 j c hj
      exact ⟨u, by simp only [Cgive, if_pos hin]; exact hu, k6, R.map hid hown k7 (hroI.2 _ o0 h1 c (List.mem_of_getElem? hj))⟩
    · simp only [Cgive, if_neg hin] at hb
      obtain ⟨k1, cur, k2, k3, k4, k5⟩ := hs.obj.live i o b h' hb
      refine ⟨.inl k1, cur, (hfr.block b (hs.obj.bnd b k1) (hnG i o b hin h' hb)).trans k2, by simp only [Cgive, if_neg hin, k3], by simp only [Cgive, if_neg hin]; exact k4, fun j av hj => ?_⟩
      obtain ⟨u, hu, k6, k7⟩ := k5 j av hj
      exact ⟨u, by simp only [Cgive, if_neg hin]; exact hu, k6, k7.ext hext⟩
  · rcases hlive i o1 h1 with ⟨hin, p1, a1, rfl⟩ | ⟨hin, h1'⟩ <;> rcases hlive i' o2 h2 with ⟨hin', p2, b1, rfl⟩ | ⟨hin', h2'⟩
    · simp only [Cgive, if_pos hin] at h3
      simp only [Cgive, if_pos hin'] at h4
      have := hobj.inj _ _ p1 p2 b (obG_some a1) (obG_some b1) h3 h4
      have e1 := ix_get hin
      have e2 := ix_get hin'
      rw [this, e2] at e1
      cases e1
      rfl
    · simp only [Cgive, if_pos hin] at h3
      simp only [Cgive, if_neg hin'] at h4
      rcases hnew _ p1 b (obG_some a1) h3 with k1 | k1
      · have k2 := hs.obj.bnd b (hs.obj.live i' o2 b h2' h4).1
        omega
      · exact absurd k1 (hnG i' o2 b hin' h2' h4)
    · simp only [Cgive, if_pos hin'] at h4
      simp only [Cgive, if_neg hin] at h3
      rcases hnew _ p2 b (obG_some b1) h4 with k1 | k1
      · have k2 := hs.obj.bnd b (hs.obj.live i o1 b h1' h3).1
        omega
      · exact absurd k1 (hnG i o1 b hin h1' h3)
    · simp only [Cgive, if_neg hin] at h3
      simp only [Cgive, if_neg hin'] at h4
      exact hs.obj.inj i i' o1 o2 b h1' h2' h3 h4
  · rw [placeO_get _ _ _ _ _ hnd hlen]
    by_cases hin : i ∈ gs ++ new
    · rw [if_pos hin]
      have hdm : C'.dom (ix (gs ++ new) i) := by
        rcases hi with hi | ⟨_, hi⟩
        · have hg : i ∈ gs := by
            rcases List.mem_append.1 hin with h | h
            · exact h
            · exact absurd h (hnotnew i hi)
          obtain ⟨k, h1, h2⟩ := hixg i hg
          rw [h2]
          exact (hkp k i h1).1
        · exact hi
      have h1 := hobj.dom _ hdm
      have h2 := hdom _ hdm
      rw [obG_get, if_pos (by omega), Nat.sub_zero] at h1
      rw [List.getElem?_eq_getElem (by omega)] at h1 ⊢
      simp only [Option.getD_some] at h1
      simp only [Option.map_some, Option.getD_some]
      intro h
      cases hx : os[ix (gs ++ new) i] with
      | live o => rw [hx] at h; cases h
      | dead => rw [hx] at h; cases h
      | free => exact h1 hx
    · rw [if_neg hin]
      rcases hi with hi | ⟨hi, _⟩
      · exact hs.obj.dom i hi
      · exact absurd (List.mem_append.2 (.inr hi)) hin
  · rcases hb with hb | hb
    · have := hs.obj.bnd b hb
      have := hfr.size
      omega
    · exact hobj.bnd b hb
  · have := hs.fr.size
    refine (hfr.block b (by omega) (fun hG => ?_)).trans (hs.fr.block b hb hg)
    obtain ⟨id, o, h1, h2, h3, _⟩ := hGown b hG
    rcases hs.fresh id o b h2 h3 with h | h
    · omega
    · exact hg h
  · rcases hlive i o h with ⟨hin, o0, h1, rfl⟩ | ⟨hin, h'⟩
    · simp only [Cgive, if_pos hin] at hb
      have := hs.fr.size
      rcases hnew _ o0 b (obG_some h1) hb with k1 | k1
      · exact .inl (by omega)
      · obtain ⟨id, o2, k2, k3, k4, _⟩ := hGown b k1
        exact hs.fresh id o2 b k3 k4
    · simp only [Cgive, if_neg hin] at hb
      exact hs.fresh i o b h' hb
  · rcases ho with ho | ho
    · exact hs.newown b hb ho
    · have := hs.fr.size
      rcases hold b (by omega) ho with h | h
      · exact hs.newown b hb (hXo b h)
      · obtain ⟨_, _, _, _, _, h⟩ := hGown b h
        exact hs.newown b hb h

theorem aop_callG0 {o : Oper} {c : Call} {cal : Operand} {args : List Operand} {tys : Array TypeId} {f : FuncId} {caps avs : List AV} {giv : List LObj} {post : AV → List OSt → Prop} (lend : Bool) (gs : List Nat)
    (ho : o.op = .call c) (hc : c = { callee := .value cal, args := args.toArray, argTypes := tys }) (hN : (okOp E.N cal && args.all (okOp E.N)) = true) (hd : ∀ d, o.dst = some d → d < E.N)
    (hcal : evA st.env cal = .fn f caps) (hb : bodied P f = true) (hnd : gs.Nodup) (hgl : giv.length = gs.length)
    (hgiv : ∀ (i id : Nat), gs[i]? = some id → ∃ o : LObj, st.ob id = .live o ∧ giv[i]? = some (LObj.map (ix gs) o) ∧ ∀ c, c ∈ o.cells → Ok (· ∈ gs) True c)
    (hl : ArgsG (killO gs st.ob) gs lend (args.map (evA st.env) ++ caps) avs) (hF : FnG P f giv avs post)
    (h : ∀ res os, post res os → ∃ new, (gs ++ new).Nodup ∧ os.length = (gs ++ new).length ∧ (∀ id, id ∈ new → st.ob id = .free) ∧
      (lend = true → Ok (fun _ => True) False res ∧ ∀ (i : Nat) (o : LObj), os[i]? = some (.live o) → ∀ c, c ∈ o.cells → Ok (fun _ => True) False c) ∧
      K (St.put ⟨st.env, placeO (nm (gs ++ new)) (gs ++ new) os st.ob⟩ o.dst (res.map (nm (gs ++ new))))) : AOp P E o st K := by
  subst hc
  simp only [Bool.and_eq_true] at hN
  rintro a w q ⟨C, hs⟩
  have hk := hs.kill gs
  have hrc := hs.ev cal hN.1
  rw [hcal] at hrc
  obtain ⟨us, huc, husz, hurel⟩ := R_fn_inv hrc
  have hargs : ∀ j av, (args.map (evA st.env))[j]? = some av → R w C av ((args.map a.eval).getD j undef) := fun j av hj => by
    rw [List.getElem?_map, Option.map_eq_some_iff] at hj
    obtain ⟨x, hj, rfl⟩ := hj
    have := hs.ev x (List.all_eq_true.1 hN.2 x (List.mem_of_getElem? hj))
    simpa [hj] using this
  have hrun : (execOp a.eval o).run P w = .ok (.enter f ((args.map a.eval).toArray ++ us)) w := by
    simp [execOp, ho, resolve, huc, Deferred.ofValue, invoke, run_callFunc hb]
  let X : Nat → Prop := fun b => C.own b ∧ (lend = true → ∀ id o, killO gs st.ob id = .live o → C.blk id ≠ some b)
  let C2 : Ctx := ⟨fun i => (gs[i]?).bind C.blk, fun i => ((gs[i]?).map C.sz).getD (0, 0), fun i => ((gs[i]?).map C.esz).getD 0, fun i => i < gs.length, X⟩
  have hX : ∀ b, X b → C.own b := fun b h => h.1
  have hsz : ((args.map a.eval).toArray ++ us).size = avs.length := by rw [argsG_len hl]; simp [husz]
  have hown2 : True → ∀ b, ¬ C.own b → ¬ C2.own b := fun _ b h h2 => h (hX b h2)
  have hid2 : ∀ id, id ∈ gs → C.dom id → C2.dom (ix gs id) ∧ C2.blk (ix gs id) = C.blk id ∧ C2.sz (ix gs id) = C.sz id ∧ C2.esz (ix gs id) = C.esz id := fun id hm _ => by
    have hg := ix_get hm
    exact ⟨(List.getElem?_eq_some_iff.1 hg).1, by simp [C2, hg], by simp [C2, hg], by simp [C2, hg]⟩
  have hrel : ∀ j av, avs[j]? = some av → R w C2 av (((args.map a.eval).toArray ++ us).getD j undef) := fun j av hj => by
    have hjl : j < avs.length := (List.getElem?_eq_some_iff.1 hj).1
    have hjl2 : j < (args.map (evA st.env) ++ caps).length := by rw [← argsG_len hl]; exact hjl
    have h1 : R w C (args.map (evA st.env) ++ caps)[j] (((args.map a.eval).toArray ++ us).getD j undef) := by
      by_cases hja : j < args.length
      · have h2 := hargs j _ (List.getElem?_eq_getElem (by simpa using hja))
        rw [List.getElem_append_left (by simpa using hja)]
        have : ((args.map a.eval).toArray ++ us).getD j undef = (args.map a.eval).getD j undef := by
          simp [Array.getElem?_append_left, hja]
        rw [this]
        exact h2
      · rw [List.getElem_append_right (by simp; omega)]
        have hjc : j - args.length < caps.length := by simp at hjl2; omega
        have h2 := hurel (j - args.length) _ (List.getElem?_eq_getElem hjc)
        have : ((args.map a.eval).toArray ++ us).getD j undef = us.getD (j - args.length) undef := by
          simp [Array.getElem?_append_right, Nat.not_lt.1 hja]
        rw [this]
        simpa using h2
    rcases argsG_get hl j _ av (List.getElem?_eq_getElem hjl2) hj with ⟨hok, he⟩ | ⟨hlend, hle, hno⟩
    · rw [← he]
      exact R.map hid2 hown2 h1 hok
    · have h3 := hk.lend X (fun b hb => ⟨hb.1, hb.2 hlend⟩) hle h1
      have := R.map (C := C0 X) (C2 := C2) (σ := id) (p := fun _ => False) (ro := True) (fun _ h _ => h.elim) (fun _ b hb hx => hb hx) h3 hno
      rwa [map_noId hno] at this
  have hgo : ∀ i o', obG 0 (giv.map .live) noOb i = .live o' → ∃ id o, gs[i]? = some id ∧ st.ob id = .live o ∧ o' = LObj.map (ix gs) o ∧ ∀ c, c ∈ o.cells → Ok (· ∈ gs) True c := fun i o' h => by
    have h1 := obG_live h
    rw [List.getElem?_map, Option.map_eq_some_iff] at h1
    obtain ⟨o2, h2, h3⟩ := h1
    cases h3
    have hil : i < gs.length := by rw [← hgl]; exact (List.getElem?_eq_some_iff.1 h2).1
    obtain ⟨o, k1, k2, k3⟩ := hgiv i gs[i] (List.getElem?_eq_getElem hil)
    rw [h2] at k2
    cases k2
    exact ⟨_, o, List.getElem?_eq_getElem hil, k1, rfl, k3⟩
  have hobj : ObjR w C2 (obG 0 (giv.map .live) noOb) := by
    refine ⟨fun i o' h => ?_, fun i o' b h hb => ?_, fun i i' o1 o2 b h1 h2 h3 h4 => ?_, fun i hi => ?_, fun b hb => hs.obj.bnd b (hX b hb)⟩
    · obtain ⟨id, o, h1, h2, rfl, _⟩ := hgo i o' h
      obtain ⟨k1, k2, k3⟩ := hs.obj.nil id o h2
      refine ⟨(List.getElem?_eq_some_iff.1 h1).1, by simp [C2, h1, LObj.map, k2], fun hb => ?_⟩
      have : C.blk id = none := by simpa [C2, h1] using hb
      simp [LObj.map, k3 this, AV.mapL]
    · obtain ⟨id, o, h1, h2, rfl, h3⟩ := hgo i o' h
      have hb' : C.blk id = some b := by simpa [C2, h1] using hb
      obtain ⟨k1, cur, k2, k4, k5, k6⟩ := hs.obj.live id o b h2 hb'
      refine ⟨⟨k1, fun _ id' o2 hl2 hb2 => ?_⟩, cur, k2, by simp [C2, h1, k4], by simpa [C2, h1, LObj.map, mapL_eq] using k5, fun j av hj => ?_⟩
      · rw [killO_get] at hl2
        split at hl2
        · cases hl2
        · rename_i hni
          have := hs.obj.inj id' id o2 o b hl2 h2 hb2 hb'
          subst this
          exact hni (List.mem_of_getElem? h1)
      · simp only [LObj.map, mapL_eq, List.getElem?_map, Option.map_eq_some_iff] at hj
        obtain ⟨c, hj, rfl⟩ := hj
        obtain ⟨u, hu, k7, k8⟩ := k6 j c hj
        exact ⟨u, by simpa [C2, h1] using hu, k7, R.map hid2 hown2 k8 (h3 c (List.mem_of_getElem? hj))⟩
    · obtain ⟨id, o', a1, a2, _, _⟩ := hgo i o1 h1
      obtain ⟨id2, o'', b1, b2, _, _⟩ := hgo i' o2 h2
      have e1 : C.blk id = some b := by simpa [C2, a1] using h3
      have e2 : C.blk id2 = some b := by simpa [C2, b1] using h4
      have e3 := hs.obj.inj id id2 o' o'' b a2 b2 e1 e2
      subst e3
      obtain ⟨l1, m1⟩ := List.getElem?_eq_some_iff.1 a1
      obtain ⟨l2, m2⟩ := List.getElem?_eq_some_iff.1 b1
      exact (List.getElem_inj (h₀ := l1) (h₁ := l2) hnd).1 (m1.trans m2.symm)
    · have hi' : i < giv.length := by rw [hgl]; exact hi
      rw [obG_some (x := .live giv[i]) (by simp [hi'])]
      intro h; cases h
  have hcall := hF w C2 _ hsz hobj (hs.laid.sub hX) hrel
  unfold Oper.wp
  rw [hrun]
  refine hcall.mono ?_
  rintro e w' ⟨v, C', res, os, rfl, hml, hpost, hfr, hR, hobj', hkp, hnew, hkeep, hold⟩
  obtain ⟨new, hndn, hlen, hfree, hro, hK⟩ := h res os hpost
  refine ⟨_, ⟨_, hs.backG (X := X) hndn hlen hX (fun b hG => ?_) (fun id hid => ?_) hfr hR hobj' (fun i id hi => ?_) hnew hkeep hold hfree ?_ o.dst hd⟩, hK⟩
  · obtain ⟨i, hi, hbi⟩ := hG
    have hil : i < gs.length := by rw [← hgl]; exact hi
    exact ⟨gs[i], List.getElem_mem hil, by simpa [C2, hil] using hbi⟩
  · obtain ⟨i, hi⟩ := List.mem_iff_getElem?.1 hid
    obtain ⟨o, k1, _⟩ := hgiv i id hi
    exact ⟨o, k1⟩
  · obtain ⟨k1, k2, k3, k4⟩ := hkp i (by rw [hgl]; exact (List.getElem?_eq_some_iff.1 hi).1)
    exact ⟨k1, by rw [k2]; simp [C2, hi], by rw [k3]; simp [C2, hi], by rw [k4]; simp [C2, hi]⟩
  · cases lend with
    | true => exact .inr (hro rfl)
    | false => exact .inl fun b hb => ⟨hb, fun h => by cases h⟩
end
end Go.Lo
