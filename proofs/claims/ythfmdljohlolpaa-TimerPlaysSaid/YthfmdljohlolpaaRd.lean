/- What the readings of a call's inputs say in the logic of values; the frame of a law's proof. -/
import Derived.Test.YthfmdljohlolpaaLoI
import Derived.WalkKit
import Derived.ProofKit
import Derived.OpenShut
import Derived.ChangeOld
import Derived.Below
import Derived.Carry
import Derived.Deep.Slices
import Derived.ChangeSame
set_option linter.unusedVariables false
set_option linter.unusedSimpArgs false
namespace Go.Lo
open Go.ChangeShapes Go.WideShapes Go.Deep Go.RowKit

abbrev Cx : Ctx := C0 (fun _ => False)

/-- The cells of whatever reads as type t are those of a list element f a. -/
def Dec (P : Program) (t : TypeId) {α : Type} (f : α → List AV) (s : Nat) (Q : α → Prop) : Prop :=
  ∀ (H : Type) (en : TypeId × Value → H) (w : World) (sp : Nat → Bool) (fuel : Nat) (cs : List Value) (x : DataW H × List MemPlace), DataW.trod en P w 0 sp true fuel t cs = some x →
    ∃ a, Q a ∧ cs.length = s ∧ (f a).length = s ∧ ∀ (j : Nat) (av : AV), (f a)[j]? = some av → ∃ u, cs[j]? = some u ∧ u.oneCell' = true ∧ R w Cx av u

theorem dec_map {P : Program} {t : TypeId} {α β : Type} {f : α → List AV} {f' : β → List AV} {s : Nat} {Q : α → Prop} {Q' : β → Prop} (g : α → β) (hd : Dec P t f s Q) (hf : ∀ a, f' (g a) = f a) (hQ : ∀ a, Q a → Q' (g a)) : Dec P t f' s Q' := by
  intro H en w sp fuel cs x h
  obtain ⟨a, h1, h2, h3, h4⟩ := hd H en w sp fuel cs x h
  exact ⟨g a, hQ a h1, h2, by rw [hf]; exact h3, fun j av hj => h4 j av (by rw [← hf]; exact hj)⟩

theorem one_cell {w : World} {u : Value} {av : AV} (h1 : u.oneCell' = true) (hR : R w Cx av u) : ∀ (j : Nat) (av' : AV), [av][j]? = some av' → ∃ u', [u][j]? = some u' ∧ u'.oneCell' = true ∧ R w Cx av' u' := fun j av' hj => by
  cases j with
  | zero => simp at hj; subst hj; exact ⟨u, rfl, h1, hR⟩
  | succ j => simp at hj

theorem dec_int {P : Program} {t : TypeId} {k : IntKind} (h : P.underlying t = some (.int k)) : Dec P t (fun n : Int => [.v (.int k n)]) 1 (fun n => (Lit.int k n).wf = true) := by
  intro H en w sp fuel cs x hx
  obtain ⟨n, rfl, _, hw⟩ := DataW.trod_int h hx
  exact ⟨n, hw, rfl, rfl, one_cell rfl (.v _)⟩
theorem dec_bool {P : Program} {t : TypeId} (h : P.underlying t = some .bool) : Dec P t (fun b : Bool => [.v (.bool b)]) 1 (fun _ => True) := by
  intro H en w sp fuel cs x hx
  obtain ⟨b, rfl, _⟩ := DataW.trod_bool h hx
  exact ⟨b, trivial, rfl, rfl, one_cell rfl (.v _)⟩

theorem exists_list {α : Type} {p : Nat → α → Prop} : ∀ (n : Nat), (∀ i, i < n → ∃ a, p i a) → ∃ l : List α, l.length = n ∧ ∀ i a, l[i]? = some a → p i a := by
  intro n
  induction n with
  | zero => intro _; exact ⟨[], rfl, fun i a h => by simp at h⟩
  | succ n ih =>
    intro h
    obtain ⟨l, h1, h2⟩ := ih (fun i hi => h i (by omega))
    obtain ⟨a, ha⟩ := h n (by omega)
    refine ⟨l ++ [a], by simp [h1], fun i b hb => ?_⟩
    rw [List.getElem?_append] at hb
    split at hb
    · exact h2 i b hb
    · rename_i hi
      have hin : i = n := by
        have := (List.getElem?_eq_some_iff.1 hb).1
        simp at this
        omega
      subst hin
      simp [h1] at hb
      subst hb
      exact ha

theorem enc_at {α : Type} {f : α → List AV} {s : Nat} : ∀ (l : List α), (∀ x ∈ l, (f x).length = s) → ∀ (j : Nat) (av : AV), (enc f l)[j]? = some av → ∃ a, l[j / s]? = some a ∧ (f a)[j % s]? = some av := by
  intro l
  induction l with
  | nil => intro _ j av h; simp [enc] at h
  | cons b l ih =>
    intro hf j av h
    rw [enc_cons] at h
    have hb := hf b (by simp)
    rw [List.getElem?_append] at h
    split at h
    · rename_i hlt
      rw [hb] at hlt
      exact ⟨b, by rw [Nat.div_eq_of_lt hlt]; rfl, by rw [Nat.mod_eq_of_lt hlt]; exact h⟩
    · rename_i hge
      rw [hb] at hge h
      obtain ⟨a, h1, h2⟩ := ih (fun x hx => hf x (by simp [hx])) (j - s) av h
      by_cases hs : s = 0
      · subst hs
        have : (f a).length = 0 := by
          refine hf a ?_
          exact List.mem_cons_of_mem _ (List.mem_of_getElem? h1)
        rw [List.getElem?_eq_none (by omega)] at h2
        cases h2
      · have e1 : j / s = (j - s) / s + 1 := by
          have := Nat.add_div_right (j - s) (z := s) (by omega)
          rw [Nat.sub_add_cancel (by omega)] at this
          exact this
        have e2 : j % s = (j - s) % s := (Nat.mod_eq_sub_mod (by omega))
        exact ⟨a, by rw [e1]; simpa using h1, by rw [e2]; exact h2⟩

theorem slice_R {P : Program} {w : World} {t e : TypeId} {α : Type} {f : α → List AV} {s : Nat} {Q : α → Prop} (ht : P.underlying t = some (.slice e)) (hC : P.cellsOf e = s) (hd : Dec P e f s Q)
    {H : Type} {en : TypeId × Value → H} {sp : Nat → Bool} {fuel : Nat} {cs : List Value} {x : DataW H × List MemPlace} (h : DataW.trod en P w 0 sp true fuel t cs = some x) :
    ∃ (A : Option Addr) (n c : Nat) (l : List α), cs = [.slice A n c] ∧ (∀ a ∈ l, Q a) ∧ n = l.length ∧ n ≤ maxLen ∧ R w Cx (.ro l.length (enc f l)) (.slice A n c) := by
  rcases open_slice ht h with ⟨rfl, _⟩ | ⟨a, len, cap, m, n, D, Pl, rfl, _, hl, hm, hmm, _, hi⟩
  · exact ⟨none, 0, 0, [], rfl, fun _ h => by simp at h, rfl, Nat.zero_le _, .ro 0 0 none [] (fun _ => undef) (Nat.le_refl _) (Nat.zero_le _) (fun _ => ⟨rfl, rfl⟩) (fun j hj => by simp at hj) (fun j av hj => by simp at hj)⟩
  · have hml : len ≤ m := by rw [hmm]; split <;> omega
    obtain ⟨l, hlen, hget⟩ := exists_list (p := fun i (b : α) => Q b ∧ (f b).length = s ∧ ∀ (j : Nat) (av : AV), (f b)[j]? = some av → ∃ u, w.cell? (a.add (i * s + j)) = some u ∧ u.oneCell' = true ∧ R w Cx av u) len (fun i hil => by
      obtain ⟨cs', hc, ht'⟩ := hi i (by omega)
      rw [hC] at hc
      obtain ⟨_, hcl, hat⟩ := World.cells?_some hc
      obtain ⟨b, q1, q2, q3, q4⟩ := hd H en w sp _ _ _ ht'
      refine ⟨b, q1, q3, fun j av hj => ?_⟩
      obtain ⟨u, hu, h1, hR⟩ := q4 j av hj
      have hjs : j < s := by rw [← q2]; exact (List.getElem?_eq_some_iff.1 hu).1
      exact ⟨u, by rw [← add_add, hat j hjs, hu], h1, hR⟩)
    subst hlen
    have hfs : ∀ x ∈ l, (f x).length = s := fun x hx => by
      obtain ⟨i, hi'⟩ := List.mem_iff_getElem?.1 hx
      exact (hget i x hi').2.1
    have hcell : ∀ (j : Nat) (av : AV), (enc f l)[j]? = some av → ∃ u, w.cell? (a.add j) = some u ∧ u.oneCell' = true ∧ R w Cx av u := fun j av hj => by
      obtain ⟨b, h1, h2⟩ := enc_at l hfs j av hj
      obtain ⟨u, h3, h4, h5⟩ := (hget _ b h1).2.2 _ av h2
      have : j / s * s + j % s = j := by rw [Nat.mul_comm]; exact Nat.div_add_mod j s
      rw [this] at h3
      exact ⟨u, h3, h4, h5⟩
    refine ⟨some a, l.length, cap, l, rfl, fun b hb => ?_, rfl, Nat.le_trans hl hm, .ro _ cap (some a) _ (fun j => (w.cell? (a.add j)).getD undef) hl hm (fun e => by cases e) (fun j hj => ?_) (fun j av hj => ?_)⟩
    · obtain ⟨i, hi'⟩ := List.mem_iff_getElem?.1 hb
      exact (hget i b hi').1
    · obtain ⟨u, h3, h4, h5⟩ := hcell j _ (List.getElem?_eq_getElem hj)
      exact ⟨a, rfl, fun h => h.elim, by rw [h3]; rfl, by rw [h3]; exact h4⟩
    · obtain ⟨u, h3, h4, h5⟩ := hcell j av hj
      rw [h3]
      exact h5
theorem dec_slice {P : Program} {t e : TypeId} {α : Type} {f : α → List AV} {s : Nat} {Q : α → Prop} (ht : P.underlying t = some (.slice e)) (hC : P.cellsOf e = s) (hd : Dec P e f s Q) :
    Dec P t (fun l : List α => [.ro l.length (enc f l)]) 1 (fun l => (∀ a ∈ l, Q a) ∧ l.length ≤ maxLen) := by
  intro H en w sp fuel cs x h
  obtain ⟨A, n, c, l, rfl, h1, h2, h3, h4⟩ := slice_R ht hC hd h
  exact ⟨l, ⟨h1, by omega⟩, rfl, rfl, one_cell rfl h4⟩

/-! ### structs, field by field -/
/-- A struct's fields: their types and places. -/
def structT (P : Program) (t : TypeId) : Option (List (TypeId × Nat)) :=
  match P.underlying t with
  | some (.struct fs) => some (fs.toList.map fun f => (f.type, f.offset))
  | _ => none
theorem structT_spec {P : Program} {t : TypeId} {l : List (TypeId × Nat)} (h : structT P t = some l) : ∃ fs, P.underlying t = some (.struct fs) ∧ l = fs.toList.map fun f => (f.type, f.offset) := by
  unfold structT at h
  split at h
  · rename_i fs he
    cases h
    exact ⟨fs, he, rfl⟩
  · cases h
def DecS (P : Program) (fs : List (TypeId × Nat)) (off : Nat) {α : Type} (f : α → List AV) (s : Nat) (Q : α → Prop) : Prop :=
  ∀ (H : Type) (en : TypeId × Value → H) (w : World) (sp : Nat → Bool) (n : Nat) (cs : List Value), (∀ (i : Nat) (fl : TypeId × Nat), fs[i]? = some fl → ∃ y, DataW.trod en P w 0 sp true n fl.1 ((cs.drop fl.2).take (P.cellsOf fl.1)) = some y) →
    ∃ a, Q a ∧ (f a).length = s ∧ ∀ (j : Nat) (av : AV), (f a)[j]? = some av → ∃ u, cs[off + j]? = some u ∧ u.oneCell' = true ∧ R w Cx av u
theorem decS_nil {P : Program} {off : Nat} : DecS P [] off (fun _ : Unit => []) 0 (fun _ => True) := fun _ _ _ _ _ _ _ => ⟨(), trivial, rfl, fun j av h => by simp at h⟩
theorem decS_cons {P : Program} {ft : TypeId} {fo : Nat} {rest : List (TypeId × Nat)} {off s s' : Nat} {α β : Type} {f : α → List AV} {f' : β → List AV} {Q : α → Prop} {Q' : β → Prop} (hd : Dec P ft f s Q) (ho : fo = off) (hC : P.cellsOf ft = s) (hr : DecS P rest (off + s) f' s' Q') :
    DecS P ((ft, fo) :: rest) off (fun x : α × β => f x.1 ++ f' x.2) (s + s') (fun x => Q x.1 ∧ Q' x.2) := by
  intro H en w sp n cs h
  obtain ⟨y, hy⟩ := h 0 (ft, fo) rfl
  obtain ⟨a, q1, q2, q3, q4⟩ := hd H en w sp _ _ _ hy
  obtain ⟨b, r1, r2, r3⟩ := hr H en w sp n cs (fun i fl' hi => h (i + 1) fl' (by simpa using hi))
  refine ⟨(a, b), ⟨q1, r1⟩, by simp [q3, r2], fun j av hj => ?_⟩
  simp only at hj
  rw [List.getElem?_append] at hj
  split at hj
  · rename_i hlt
    rw [q3] at hlt
    obtain ⟨u, hu, h1, hR⟩ := q4 j av hj
    refine ⟨u, ?_, h1, hR⟩
    simp only [hC, ho] at hu
    rw [List.getElem?_take_of_lt hlt, List.getElem?_drop] at hu
    exact hu
  · rename_i hge
    rw [q3] at hge hj
    obtain ⟨u, hu, h1, hR⟩ := r3 (j - s) av hj
    exact ⟨u, by rw [← hu]; congr 1; omega, h1, hR⟩
theorem dec_struct {P : Program} {t : TypeId} {fs : List (TypeId × Nat)} {α : Type} {f : α → List AV} {s : Nat} {Q : α → Prop} (hs : structT P t = some fs) (hd : DecS P fs 0 f s Q) (hC : P.cellsOf t = s) : Dec P t f s Q := by
  intro H en w sp fuel cs x h
  obtain ⟨gs, ht, rfl⟩ := structT_spec hs
  obtain ⟨xs, n, _, _, hl, hxl, hf⟩ := DataW.trod_struct ht h
  obtain ⟨a, q1, q2, q3⟩ := hd H en w sp n cs (fun i fl hi => by
    rw [List.getElem?_map, Option.map_eq_some_iff] at hi
    obtain ⟨g, hg, rfl⟩ := hi
    have hg' : gs[i]? = some g := by simpa using hg
    have h1 := hf i g hg'
    have hlt : i < xs.length := by rw [hxl]; exact (Array.getElem?_eq_some_iff.1 hg').1
    exact ⟨_, h1.trans (List.getElem?_eq_getElem hlt)⟩)
  exact ⟨a, q1, by rw [hl, hC], q2, fun j av hj => by simpa using q3 j av hj⟩

/-! ### arguments -/
section
variable {P : Program} {w : World} {H : Type} {en : TypeId × Value → H} {sp : Nat → Bool} {r : Reach} {b0 : Nat} {t : TypeId} {v : Value} {d : DataW H} {p : List MemPlace}
theorem arg_int {k : IntKind} (ht : P.underlying t = some (.int k)) (hv : Value.okWide P w r b0 t v) (h : DataW.Trod en P w 0 sp true t v d p) : ∃ n : Int, (Lit.int k n).wf = true ∧ R w Cx (.v (.int k n)) v := by
  obtain ⟨n, rfl, _, _, hw⟩ := open_int ht hv h
  exact ⟨n, hw, .v _⟩
theorem arg_bool (ht : P.underlying t = some .bool) (hv : Value.okWide P w r b0 t v) (h : DataW.Trod en P w 0 sp true t v d p) : ∃ b : Bool, R w Cx (.v (.bool b)) v := by
  obtain ⟨b, rfl, _, _⟩ := open_bool ht hv h
  exact ⟨b, .v _⟩
theorem arg_slice {e : TypeId} {α : Type} {f : α → List AV} {s : Nat} {Q : α → Prop} (ht : P.underlying t = some (.slice e)) (hC : P.cellsOf e = s) (hd : Dec P e f s Q) (hv : Value.okWide P w r b0 t v) (h : DataW.Trod en P w 0 sp true t v d p) :
    ∃ l : List α, ((∀ a ∈ l, Q a) ∧ l.length ≤ maxLen) ∧ R w Cx (.ro l.length (enc f l)) v := by
  obtain ⟨a0, len, cap, rfl⟩ := okWide_slice ht hv
  obtain ⟨fuel, hf⟩ := h
  obtain ⟨A, n, c, l, hcs, h1, h2, h3, h4⟩ := slice_R ht hC hd hf
  simp [Value.cells] at hcs
  obtain ⟨rfl, rfl, rfl⟩ := hcs
  exact ⟨l, ⟨h1, by omega⟩, h4⟩
theorem arg_struct {fs : List (TypeId × Nat)} {α : Type} {f : α → List AV} {s : Nat} {Q : α → Prop} (hst : structT P t = some fs) (hd : Dec P t f s Q) (hv : Value.okWide P w r b0 t v) (h : DataW.Trod en P w 0 sp true t v d p) :
    ∃ a : α, Q a ∧ R w Cx (.agg (f a)) v := by
  obtain ⟨gs, ht, _⟩ := structT_spec hst
  obtain ⟨us, rfl, hsz⟩ := okWide_struct ht hv
  obtain ⟨fuel, hf⟩ := h
  obtain ⟨a, h1, h2, h3, h4⟩ := hd H en w sp fuel _ _ hf
  refine ⟨a, h1, .agg _ us ?_ (fun j av hj => ?_)⟩
  · simp only [Value.cells] at h2
    rw [h3, ← h2]
    simp
  · obtain ⟨u, hu, _, hR⟩ := h4 j av hj
    simp only [Value.cells, Array.getElem?_toList] at hu
    simp only [Array.getD_eq_getD_getElem?, hu, Option.getD_some]
    exact hR
end

/-! ### a law that returns true -/
theorem fn_true {P : Program} {f : FuncId} {args : List AV} (h : Fn P f args (.v (.bool true))) (w : World) (hL : Laid w (fun _ => False)) (vs : Array Value) (hs : vs.size = args.length) (hR : ∀ (j : Nat) (av : AV), args[j]? = some av → R w Cx av (vs.getD j undef)) :
    Calls P f vs w fun e w' => e = .returned (.bool true) ∧ Below w.heap.size w w' :=
  (h w (fun _ => False) vs hs (fun _ h => h.elim) hL hR).mono fun e w' ⟨v, C', res, news, he, ⟨hres, _⟩, hfr, hRv, _⟩ => by
    subst hres
    cases hRv
    exact ⟨he, hfr.os, hfr.tape, hfr.output, hfr.size, fun k hk => hfr.block k hk (fun h => h.elim)⟩
theorem laid_none {w : World} (h : laidT = []) : Laid w (fun _ => False) := fun q hq => by rw [h] at hq; cases hq
theorem args0 {w : World} {vs : Array Value} : ∀ (j : Nat) (av : AV), ([] : List AV)[j]? = some av → R w Cx av (vs.getD j undef) := fun j av h => by simp at h
def ArgsR (w : World) : List AV → List Value → Prop
  | [], [] => True
  | a :: as, v :: vs => R w Cx a v ∧ ArgsR w as vs
  | _, _ => False
theorem argsR {w : World} : ∀ {avs : List AV} {us : List Value}, ArgsR w avs us → ∀ (j : Nat) (av : AV), avs[j]? = some av → R w Cx av (us.toArray.getD j undef)
  | [], [], _, j, av, h => by simp at h
  | a :: as, v :: vs, ⟨h1, h2⟩, j, av, h => by
    cases j with
    | zero => simp at h; subst h; simpa using h1
    | succ j =>
      have := argsR h2 j av (by simpa using h)
      simpa using this
  | [], _ :: _, h, _, _, _ => h.elim
  | _ :: _, [], h, _, _, _ => h.elim
end Go.Lo
