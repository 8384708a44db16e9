/- A logic of our own over the model's weakest preconditions: abstract values, and what they say of the machine's values and memory. -/
import Derived.Calls
import Derived.Orders
import Derived.Tactics
import Derived.Maps.AppendAt
import Derived.Laws.Rows
import Derived.Laws.NewBlocks
import Derived.Test.YthfmdljohlolpaaLoT
namespace Go.Lo

/-- What is known of a value. 'any': nothing; 'one': that it is of one cell; 'v': the value itself; 'ro', 'rp': a slice of n elements, a pointer, whose cells are only read; 'sl', 'pt': a slice, a pointer, into an object of the call's own. -/
inductive AV where
  | any
  | one
  | v (x : Value)
  | ro (n : Nat) (cells : List AV)
  | rp (cells : List AV)
  | sl (id off n : Nat)
  | pt (id off : Nat)
  | agg (cells : List AV)
  | tup (vs : List AV)
  | fn (f : FuncId) (cap : List AV)
  deriving Inhabited

/-- An object of the call's own: its cells (a row may be longer in memory), its elements' type, cells an element. -/
structure LObj where
  cells : List AV
  elem : TypeId
  esz : Nat

inductive OSt where
  | free
  | dead
  | live (o : LObj)

structure St where
  env : Nat → AV
  ob : Nat → OSt

/-- Where the named objects lie ('blk': none is nil), how many cells their block has, and at which of those they begin ('sz'); 'own': blocks that what is only read doesn't lie in. -/
structure Ctx where
  blk : Nat → Option Nat
  sz : Nat → Nat × Nat
  esz : Nat → Nat
  dom : Nat → Prop
  own : Nat → Prop

inductive R (w : World) (C : Ctx) : AV → Value → Prop
  | any (u : Value) : R w C .any u
  | one (u : Value) (h : u.oneCell' = true) : R w C .one u
  | v (x : Value) : R w C (.v x) x
  | ro (n c : Nat) (A : Option Addr) (cells : List AV) (us : Nat → Value) (hc : n ≤ c) (hm : c ≤ maxLen) (h0 : A = none → n = 0 ∧ c = 0)
      (hcell : ∀ j, j < cells.length → ∃ ad, A = some ad ∧ ¬ C.own ad.block ∧ w.cell? (ad.add j) = some (us j) ∧ (us j).oneCell' = true)
      (hrel : ∀ j av, cells[j]? = some av → R w C av (us j)) : R w C (.ro n cells) (.slice A n c)
  | rp (ad : Addr) (cells : List AV) (us : Nat → Value)
      (hcell : ∀ j, j < cells.length → ¬ C.own ad.block ∧ w.cell? (ad.add j) = some (us j) ∧ (us j).oneCell' = true)
      (hrel : ∀ j av, cells[j]? = some av → R w C av (us j)) : R w C (.rp cells) (.pointer (some ad))
  | sl (id off n c b : Nat) (hd : C.dom id) (hb : C.blk id = some b) (hn : n ≤ c) (hm : c ≤ maxLen) (hs : (C.sz id).2 + off + c * C.esz id = (C.sz id).1) : R w C (.sl id off n) (.slice (some ⟨b, (C.sz id).2 + off, none⟩) n c)
  | slnil (id : Nat) (A : Option Addr) (hA : ∀ a, A = some a → ∃ g k, a = ⟨g, k, none⟩) (hd : C.dom id) (hb : C.blk id = none) : R w C (.sl id 0 0) (.slice A 0 0)
  | pt (id off b : Nat) (hd : C.dom id) (hb : C.blk id = some b) : R w C (.pt id off) (.pointer (some ⟨b, (C.sz id).2 + off, none⟩))
  | agg (cells : List AV) (us : Array Value) (hs : us.size = cells.length) (hrel : ∀ j av, cells[j]? = some av → R w C av (us.getD j undef)) : R w C (.agg cells) (.agg us)
  | tup (cells : List AV) (us : Array Value) (hs : us.size = cells.length) (hrel : ∀ j av, cells[j]? = some av → R w C av (us.getD j undef)) : R w C (.tup cells) (.tuple us)
  | fn (f : FuncId) (cells : List AV) (us : Array Value) (hs : us.size = cells.length) (hrel : ∀ j av, cells[j]? = some av → R w C av (us.getD j undef)) : R w C (.fn f cells) (.func (.func f) #[] us)

theorem R.nil0 {w : World} {C : Ctx} {id : Nat} (hd : C.dom id) (hb : C.blk id = none) : R w C (.sl id 0 0) (.slice none 0 0) := .slnil id none (fun _ h => by cases h) hd hb
theorem R.pt0 {w : World} {C : Ctx} {id off b : Nat} (hd : C.dom id) (hb : C.blk id = some b) (h0 : (C.sz id).2 = 0) : R w C (.pt id off) (.pointer (some ⟨b, off, none⟩)) := by
  have := R.pt (w := w) id off b hd hb
  rwa [h0, Nat.zero_add] at this
theorem R.sl0 {w : World} {C : Ctx} {id off n c b : Nat} (hd : C.dom id) (hb : C.blk id = some b) (hn : n ≤ c) (hm : c ≤ maxLen) (hs : off + c * C.esz id = (C.sz id).1) (h0 : (C.sz id).2 = 0) : R w C (.sl id off n) (.slice (some ⟨b, off, none⟩) n c) := by
  have := R.sl (w := w) id off n c b hd hb hn hm (by rw [h0]; omega)
  rwa [h0, Nat.zero_add] at this
theorem R.ptB {w : World} {C : Ctx} {id off b k : Nat} (hd : C.dom id) (hb : C.blk id = some b) (h0 : (C.sz id).2 = k) : R w C (.pt id off) (.pointer (some ⟨b, k + off, none⟩)) := by
  subst h0
  exact .pt id off b hd hb
theorem R.slB {w : World} {C : Ctx} {id off n c b k : Nat} (hd : C.dom id) (hb : C.blk id = some b) (hn : n ≤ c) (hm : c ≤ maxLen) (hs : k + off + c * C.esz id = (C.sz id).1) (h0 : (C.sz id).2 = k) : R w C (.sl id off n) (.slice (some ⟨b, k + off, none⟩) n c) := by
  subst h0
  exact R.sl (w := w) id off n c b hd hb hn hm hs

/-- The world goes on: named objects stay where they are; what may be read is as it was. -/
structure Ext (w : World) (C : Ctx) (w' : World) (C' : Ctx) : Prop where
  dom : ∀ id, C.dom id → C'.dom id ∧ C'.blk id = C.blk id ∧ C'.sz id = C.sz id ∧ C'.esz id = C.esz id
  own : ∀ b, b < w.heap.size → ¬ C.own b → ¬ C'.own b
  heap : ∀ b, b < w.heap.size → ¬ C.own b → w'.heap[b]? = w.heap[b]?

theorem Ext.refl (w : World) (C : Ctx) : Ext w C w C := ⟨fun _ h => ⟨h, rfl, rfl, rfl⟩, fun _ _ h => h, fun _ _ _ => rfl⟩

theorem add_block (ad : Addr) (j : Nat) : (ad.add j).block = ad.block := by
  unfold Addr.add
  split <;> rfl
theorem add_add (ad : Addr) (i j : Nat) : (ad.add i).add j = ad.add (i + j) := by
  unfold Addr.add
  by_cases hi : i = 0 <;> by_cases hj : j = 0 <;> simp [hi, hj, Nat.add_assoc]
theorem add_plain (g i j : Nat) : (⟨g, i, none⟩ : Addr).add j = ⟨g, i + j, none⟩ := by
  unfold Addr.add
  split <;> simp_all

theorem block_lt {w : World} {ad : Addr} {u : Value} (h : w.cell? ad = some u) : ad.block < w.heap.size := by
  unfold World.cell? at h
  rcases Nat.lt_or_ge ad.block w.heap.size with hl | hg
  · exact hl
  · rw [Array.getElem?_eq_none hg] at h
    simp at h
theorem cell_same {w w' : World} {ad : Addr} (h : w'.heap[ad.block]? = w.heap[ad.block]?) : w'.cell? ad = w.cell? ad := by simp [World.cell?, h]

theorem R.ext {w w' : World} {C C' : Ctx} (he : Ext w C w' C') {av : AV} {u : Value} (h : R w C av u) : R w' C' av u := by
  induction h with
  | any u => exact .any u
  | one u h => exact .one u h
  | v x => exact .v x
  | ro n c A cells us hc hm h0 hcell _ ih =>
    refine .ro n c A cells us hc hm h0 (fun j hj => ?_) ih
    obtain ⟨ad, hA, ho, hcl, h1⟩ := hcell j hj
    have hl := block_lt hcl
    rw [add_block] at hl
    exact ⟨ad, hA, he.own _ hl ho, (cell_same (w := w) (w' := w') (by rw [add_block]; exact he.heap _ hl ho)).trans hcl, h1⟩
  | rp ad cells us hcell _ ih =>
    refine .rp ad cells us (fun j hj => ?_) ih
    obtain ⟨ho, hcl, h1⟩ := hcell j hj
    have hl := block_lt hcl
    rw [add_block] at hl
    exact ⟨he.own _ hl ho, (cell_same (w := w) (w' := w') (by rw [add_block]; exact he.heap _ hl ho)).trans hcl, h1⟩
  | sl id off n c b hd hb hn hm hs =>
    obtain ⟨h1, h2, h3, h4⟩ := he.dom id hd
    have := R.sl (w := w') (C := C') id off n c b h1 (by rw [h2]; exact hb) hn hm (by rw [h3, h4]; exact hs)
    rw [h3] at this
    exact this
  | slnil id A hA hd hb =>
    obtain ⟨h1, h2, _, _⟩ := he.dom id hd
    exact .slnil id A hA h1 (by rw [h2]; exact hb)
  | pt id off b hd hb =>
    obtain ⟨h1, h2, _, _⟩ := he.dom id hd
    have := R.pt (w := w') (C := C') id off b h1 (by rw [h2]; exact hb)
    rw [‹C'.sz id = C.sz id›] at this
    exact this
  | agg cells us hs _ ih => exact .agg cells us hs ih
  | tup cells us hs _ ih => exact .tup cells us hs ih
  | fn f cells us hs _ ih => exact .fn f cells us hs ih

theorem Ext.trans {w w1 w2 : World} {C C1 C2 : Ctx} (h : Ext w C w1 C1) (hs : w.heap.size ≤ w1.heap.size) (k : Ext w1 C1 w2 C2) : Ext w C w2 C2 where
  dom := fun id hd => by
    obtain ⟨a1, a2, a3, a4⟩ := h.dom id hd
    obtain ⟨b1, b2, b3, b4⟩ := k.dom id a1
    exact ⟨b1, b2.trans a2, b3.trans a3, b4.trans a4⟩
  own := fun b hb ho => k.own b (Nat.lt_of_lt_of_le hb hs) (h.own b hb ho)
  heap := fun b hb ho => (k.heap b (Nat.lt_of_lt_of_le hb hs) (h.own b hb ho)).trans (h.heap b hb ho)

/-- The objects of the call's own, as they stand in memory. -/
structure ObjR (w : World) (C : Ctx) (ob : Nat → OSt) : Prop where
  nil : ∀ id o, ob id = .live o → C.dom id ∧ C.esz id = o.esz ∧ (C.blk id = none → o.cells = [])
  live : ∀ id o b, ob id = .live o → C.blk id = some b → C.own b ∧ ∃ cur : Array Value, w.heap[b]? = some (.cells cur o.elem (0, 0)) ∧ cur.size = (C.sz id).1 ∧ (C.sz id).2 + o.cells.length ≤ cur.size ∧
    ∀ (j : Nat) (av : AV), o.cells[j]? = some av → ∃ u : Value, cur[(C.sz id).2 + j]? = some u ∧ u.oneCell' = true ∧ R w C av u
  inj : ∀ id id' o o' b, ob id = .live o → ob id' = .live o' → C.blk id = some b → C.blk id' = some b → id = id'
  dom : ∀ id, C.dom id → ob id ≠ .free
  bnd : ∀ b, C.own b → b < w.heap.size

/-- What was there when the call began is as it was, but for the blocks that were handed over. -/
structure Fr (G : Nat → Prop) (w0 w : World) : Prop where
  os : w.os = w0.os
  tape : w.tape = w0.tape
  output : w.output = w0.output
  size : w0.heap.size ≤ w.heap.size
  block : ∀ b, b < w0.heap.size → ¬ G b → w.heap[b]? = w0.heap[b]?

theorem Fr.refl (G : Nat → Prop) (w : World) : Fr G w w := ⟨rfl, rfl, rfl, Nat.le_refl _, fun _ _ _ => rfl⟩

/-- Package-level tables that the code reads, as they lie in memory; nobody calls their blocks his own. -/
def Laid (w : World) (X : Nat → Prop) : Prop := ∀ q, q ∈ laidT → q.1 < w.heap.size ∧ ¬ X q.1 ∧ ∀ (j : Nat) (v : Value), q.2[j]? = some v → w.cell? ⟨q.1, j, none⟩ = some v ∧ v.oneCell' = true
def LaidG (G : Nat → Prop) : Prop := ∀ q, q ∈ laidT → ¬ G q.1
/-- A call: the world when it began, the blocks that were handed over, those that nobody may read, how many slots its frame has. -/
structure Env0 where
  w0 : World
  G : Nat → Prop
  X : Nat → Prop
  N : Nat
  m : Nat
  I : Ctx
  laid : Laid w0 X
  laidG : LaidG G

structure SR (E : Env0) (C : Ctx) (st : St) (a : Act) (w : World) : Prop where
  size : a.tmps.size = E.N
  defers : a.defers = []
  env : ∀ t, t < E.N → R w C (st.env t) (a.tmps.getD t undef)
  obj : ObjR w C st.ob
  fr : Fr E.G E.w0 w
  fresh : ∀ id o b, st.ob id = .live o → C.blk id = some b → E.w0.heap.size ≤ b ∨ E.G b
  keep : ∀ b, E.X b → C.own b
  newown : ∀ b, b < E.w0.heap.size → C.own b → E.X b ∨ E.G b
  init : ∀ i, i < E.m → C.dom i ∧ C.blk i = E.I.blk i ∧ C.sz i = E.I.sz i ∧ C.esz i = E.I.esz i
  xbnd : ∀ b, E.X b → b < E.w0.heap.size

theorem Ext.init {w w' : World} {C C' : Ctx} {E : Env0} (he : Ext w C w' C') (h : ∀ i, i < E.m → C.dom i ∧ C.blk i = E.I.blk i ∧ C.sz i = E.I.sz i ∧ C.esz i = E.I.esz i) :
    ∀ i, i < E.m → C'.dom i ∧ C'.blk i = E.I.blk i ∧ C'.sz i = E.I.sz i ∧ C'.esz i = E.I.esz i := fun i hi => by
  obtain ⟨h1, h2, h3, h4⟩ := h i hi
  obtain ⟨k1, k2, k3, k4⟩ := he.dom i h1
  exact ⟨k1, k2.trans h2, k3.trans h3, k4.trans h4⟩

def SRel (E : Env0) (st : St) (a : Act) (w : World) : Prop := ∃ C, SR E C st a w

def upd (e : Nat → AV) (t : Nat) (v : AV) : Nat → AV := fun x => cond (Nat.beq x t) v (e x)
def updO (f : Nat → OSt) (t : Nat) (v : OSt) : Nat → OSt := fun x => cond (Nat.beq x t) v (f x)
theorem upd_same (e : Nat → AV) (t : Nat) (v : AV) : upd e t v t = v := by simp [upd]
theorem upd_ne (e : Nat → AV) {t s : Nat} (v : AV) (h : s ≠ t) : upd e t v s = e s := by
  have hb : Nat.beq s t = false := by
    cases hb : Nat.beq s t with
    | false => rfl
    | true => exact absurd (Nat.eq_of_beq_eq_true hb) h
  simp [upd, hb]
theorem updO_same (e : Nat → OSt) (t : Nat) (v : OSt) : updO e t v t = v := by simp [updO]
theorem updO_ne (e : Nat → OSt) {t s : Nat} (v : OSt) (h : s ≠ t) : updO e t v s = e s := by
  have hb : Nat.beq s t = false := by
    cases hb : Nat.beq s t with
    | false => rfl
    | true => exact absurd (Nat.eq_of_beq_eq_true hb) h
  simp [updO, hb]

def St.put (st : St) (dst : Option Nat) (av : AV) : St :=
  match dst with
  | some d => { st with env := upd st.env d av }
  | none => st

def laidL : List (Nat × List Value) → Nat → AV
  | [], _ => .any
  | q :: r, g => cond (Nat.beq g q.1) (.rp (q.2.map .v)) (laidL r g)
/-- What an operand says. -/
def evA (env : Nat → AV) : Operand → AV
  | .tmp t => env t
  | .const x => .v x
  | .global g => laidL laidT g
  | .func f => .fn f []

/-- An operand's slot is one of the frame's. -/
def okOp (N : Nat) : Operand → Bool
  | .tmp t => Nat.blt t N
  | _ => true

theorem SR.laid {E : Env0} {C : Ctx} {st : St} {a : Act} {w : World} (h : SR E C st a w) : Laid w C.own := fun q hq => by
  obtain ⟨h1, h2, h3⟩ := E.laid q hq
  refine ⟨Nat.lt_of_lt_of_le h1 h.fr.size, fun ho => (h.newown _ h1 ho).elim h2 (E.laidG q hq), fun j v hj => ?_⟩
  obtain ⟨h4, h5⟩ := h3 j v hj
  exact ⟨by rw [← h4]; exact cell_same (h.fr.block _ h1 (E.laidG q hq)), h5⟩
theorem Laid.sub {w : World} {X Y : Nat → Prop} (h : Laid w X) (hs : ∀ b, Y b → X b) : Laid w Y := fun q hq => ⟨(h q hq).1, fun hy => (h q hq).2.1 (hs _ hy), (h q hq).2.2⟩
theorem laid_R {w : World} {C : Ctx} {g : Nat} (h : Laid w C.own) : R w C (laidL laidT g) (.pointer (some ⟨g, 0, none⟩)) := by
  have key : ∀ l : List (Nat × List Value), (∀ q, q ∈ l → q ∈ laidT) → R w C (laidL l g) (.pointer (some ⟨g, 0, none⟩)) := by
    intro l
    induction l with
    | nil => intro _; exact .any _
    | cons q r ih =>
      intro hl
      simp only [laidL]
      cases hb : Nat.beq g q.1 with
      | false => exact ih fun x hx => hl x (List.mem_cons_of_mem _ hx)
      | true =>
        have hg := Nat.eq_of_beq_eq_true hb
        obtain ⟨h1, h2, h3⟩ := h q (hl q List.mem_cons_self)
        refine .rp _ _ (fun j => (q.2[j]?).getD undef) (fun j hj => ?_) (fun j av hj => ?_)
        · have hj' : j < q.2.length := by simpa using hj
          obtain ⟨h4, h5⟩ := h3 j q.2[j] (List.getElem?_eq_getElem hj')
          refine ⟨by show ¬ C.own g; rw [hg]; exact h2, ?_, by rw [List.getElem?_eq_getElem hj']; exact h5⟩
          rw [add_plain, Nat.zero_add, List.getElem?_eq_getElem hj', hg]
          exact h4
        · rw [List.getElem?_map, Option.map_eq_some_iff] at hj
          obtain ⟨v, hv, rfl⟩ := hj
          rw [hv]
          exact .v _
  exact key laidT fun _ h => h
theorem SR.ev {E : Env0} {C : Ctx} {st : St} {a : Act} {w : World} (h : SR E C st a w) (x : Operand) (hx : okOp E.N x = true) : R w C (evA st.env x) (a.eval x) := by
  cases x with
  | tmp t => exact h.env t (by simpa [okOp, Nat.blt_eq] using hx)
  | const u => exact .v u
  | global g => exact laid_R h.laid
  | func f => exact .fn f [] #[] rfl (fun j av hj => by simp at hj)

theorem getD_set_self {xs : Array Value} {d : Nat} {u : Value} (h : d < xs.size) : (xs.setIfInBounds d u).getD d undef = u := by
  simp [h]
theorem getD_set_other {xs : Array Value} {d t : Nat} {u : Value} (h : d ≠ t) : (xs.setIfInBounds d u).getD t undef = xs.getD t undef := by
  simp [Array.getElem?_setIfInBounds_ne h]

/-- The world goes on, a slot is written. -/
theorem SR.put {E : Env0} {C C' : Ctx} {st : St} {a : Act} {w w' : World} (h : SR E C st a w) (he : Ext w C w' C') (ob' : Nat → OSt)
    (ho : ObjR w' C' ob') (hf : Fr E.G E.w0 w') (hfr : ∀ id o b, ob' id = .live o → C'.blk id = some b → E.w0.heap.size ≤ b ∨ E.G b) (hk : ∀ b, E.X b → C'.own b)
    (hnew : ∀ b, b < E.w0.heap.size → C'.own b → E.X b ∨ E.G b)
    (dst : Option Nat) (hd : ∀ d, dst = some d → d < E.N) (av : AV) (u : Value) (hu : dst ≠ none → R w' C' av u) : SR E C' (St.put ⟨st.env, ob'⟩ dst av) (a.put dst u) w' := by
  cases dst with
  | none => exact ⟨h.size, h.defers, fun t ht => (h.env t ht).ext he, ho, hf, hfr, hk, hnew, he.init h.init, h.xbnd⟩
  | some d =>
    have hdN := hd d rfl
    refine ⟨by simp [Act.put, h.size], h.defers, fun t ht => ?_, ho, hf, hfr, hk, hnew, he.init h.init, h.xbnd⟩
    by_cases htd : t = d
    · subst htd
      simp only [St.put, Act.put, upd_same]
      rw [getD_set_self (by rw [h.size]; exact hdN)]
      exact hu (by simp)
    · simp only [St.put, Act.put]
      rw [upd_ne _ _ htd, getD_set_other (fun e => htd e.symm)]
      exact (h.env t ht).ext he

/-- A slot is written, the world stays. -/
theorem SR.set {E : Env0} {C : Ctx} {st : St} {a : Act} {w : World} (h : SR E C st a w) (dst : Option Nat) (hd : ∀ d, dst = some d → d < E.N) (av : AV) (u : Value) (hu : dst ≠ none → R w C av u) :
    SR E C (st.put dst av) (a.put dst u) w := by
  have := h.put (Ext.refl w C) st.ob h.obj h.fr h.fresh h.keep h.newown dst hd av u hu
  simpa using this

/-! ### operations, code -/
section
variable (P : Program) (E : Env0)

def AOp (o : Oper) (st : St) (K : St → Prop) : Prop :=
  ∀ (a : Act) (w : World) (Q : Exit → Act → World → Prop), SRel E st a w → o.wp P a w (fun a' w' => ∃ st', SRel E st' a' w' ∧ K st') Q

def AWP (c : Code) (st : St) (Q : Exit → St → Prop) : Prop :=
  ∀ (a : Act) (w : World), SRel E st a w → c.wp P (fun e a' w' => ∃ st', SRel E st' a' w' ∧ Q e st') a w
end

section
variable {P : Program} {E : Env0} {st : St} {Q : Exit → St → Prop}

theorem AOp.mono {o : Oper} {K K' : St → Prop} (h : AOp P E o st K) (hk : ∀ s, K s → K' s) : AOp P E o st K' :=
  fun a w q hs => Oper.wp_mono (fun _ _ ⟨s, h1, h2⟩ => ⟨s, h1, hk s h2⟩) (h a w q hs)

/-- Whatever an operation yields, in the world as it stands. -/
theorem aop_value {o : Oper} {K : St → Prop} (av : AV) (hd : ∀ d, o.dst = some d → d < E.N)
    (hrun : ∀ a w C, SR E C st a w → ∃ u, (execOp a.eval o).run P w = .ok (.value u) w ∧ R w C av u) (h : K (st.put o.dst av)) : AOp P E o st K := by
  rintro a w q ⟨C, hs⟩
  obtain ⟨u, hr, hu⟩ := hrun a w C hs
  unfold Oper.wp
  rw [hr]
  exact ⟨_, ⟨C, hs.set o.dst hd av u (fun _ => hu)⟩, h⟩

theorem awp_skip (h : Q .normal st) : AWP P E .skip st Q := fun _ _ hs => wp_skip ⟨st, hs, h⟩
theorem awp_label {l : Nat} (h : Q .normal st) : AWP P E (.label l) st Q := fun _ _ hs => wp_label ⟨st, hs, h⟩
theorem awp_exit {id : Nat} (h : Q (.exit id) st) : AWP P E (.exit id) st Q := fun _ _ hs => wp_exit ⟨st, hs, h⟩
theorem awp_ret (h : Q .ret st) : AWP P E .ret st Q := fun _ _ hs => wp_ret ⟨st, hs, h⟩

/-- What follows, or out. -/
def thenQ (K : St → Prop) (Q : Exit → St → Prop) : Exit → St → Prop
  | .normal, s => K s
  | e, s => Q e s
def blockQ (id : Nat) (Q : Exit → St → Prop) : Exit → St → Prop
  | .exit id', s => if id' = id then Q .normal s else Q (.exit id') s
  | e, s => Q e s

theorem awp_seq {x y : Code} (h : AWP P E x st (thenQ (fun s => AWP P E y s Q) Q)) : AWP P E (.seq x y) st Q := by
  intro a w hs
  refine wp_seq (wp_mono (h a w hs) ?_)
  rintro e a' w' ⟨s, h1, h2⟩
  cases e with
  | normal => exact h2 a' w' h1
  | _ => exact ⟨s, h1, h2⟩

theorem awp_block {id : Nat} {c : Code} (h : AWP P E c st (blockQ id Q)) : AWP P E (.block id c) st Q := by
  intro a w hs
  refine wp_block (wp_mono (h a w hs) ?_)
  rintro e a' w' ⟨s, h1, h2⟩
  cases e with
  | exit i =>
    simp only [Exit.inBlock]
    by_cases hi : i = id
    · simp only [blockQ, hi, if_true] at h2 ⊢
      exact ⟨s, h1, h2⟩
    · simp only [blockQ, hi, if_false] at h2 ⊢
      exact ⟨s, h1, h2⟩
  | _ => exact ⟨s, h1, h2⟩

theorem AWP.mono {c : Code} {Q' : Exit → St → Prop} (h : AWP P E c st Q) (hq : ∀ e s, Q e s → Q' e s) : AWP P E c st Q' :=
  fun a w hs => wp_mono (h a w hs) (fun _ _ _ ⟨s, h1, h2⟩ => ⟨s, h1, hq _ _ h2⟩)

theorem R.bool_inv {w : World} {C : Ctx} {u : Value} {x : Value} (h : R w C (.v x) u) : u = x := by cases h; rfl

theorem awp_cond {c : Operand} {x y : Code} (b : Bool) (hok : okOp E.N c = true) (hc : evA st.env c = .v (.bool b)) (ht : b = true → AWP P E x st Q) (hf : b = false → AWP P E y st Q) : AWP P E (.cond c x y) st Q := by
  rintro a w ⟨C, hs⟩
  have := hs.ev c hok
  rw [hc] at this
  have hb := R.bool_inv this
  exact wp_cond_split hb (fun h => ht h a w ⟨C, hs⟩) (fun h => hf h a w ⟨C, hs⟩)

/-! what may be forgotten -/
structure Le (s s' : St) : Prop where
  env : ∀ t, s'.env t = .any ∨ s'.env t = s.env t
  ob : ∀ id, s'.ob id = s.ob id ∨ (s'.ob id = .dead ∧ s.ob id ≠ .free)

theorem SRel.le {s s' : St} {a : Act} {w : World} (h : SRel E s a w) (hl : Le s s') : SRel E s' a w := by
  obtain ⟨C, h⟩ := h
  have hlive : ∀ id o, s'.ob id = .live o → s.ob id = .live o := fun id o ho => by
    rcases hl.ob id with h1 | ⟨h1, _⟩
    · rw [← h1]; exact ho
    · rw [h1] at ho; cases ho
  refine ⟨C, h.size, h.defers, fun t ht => ?_, ⟨fun id o ho => h.obj.nil id o (hlive id o ho), fun id o b ho hb => h.obj.live id o b (hlive id o ho) hb,
    fun id id' o o' b h1 h2 h3 h4 => h.obj.inj id id' o o' b (hlive _ _ h1) (hlive _ _ h2) h3 h4, fun id hd => ?_, h.obj.bnd⟩, h.fr, fun id o b ho hb => h.fresh id o b (hlive id o ho) hb, h.keep, h.newown, h.init, h.xbnd⟩
  · rcases hl.env t with h1 | h1
    · rw [h1]; exact .any _
    · rw [h1]; exact h.env t ht
  · rcases hl.ob id with h1 | ⟨h1, _⟩
    · rw [h1]; exact h.obj.dom id hd
    · rw [h1]; intro h; cases h

theorem AWP.le {c : Code} {s s' : St} (h : AWP P E c s' Q) (hl : Le s s') : AWP P E c s Q := fun a w hs => h a w (hs.le hl)

theorem le_refl (s : St) : Le s s := ⟨fun _ => .inr rfl, fun _ => .inl rfl⟩
theorem le_mk {e e' : Nat → AV} {o o' : Nat → OSt} (he : ∀ t, e' t = .any ∨ e' t = e t) (ho : ∀ id, o' id = o id ∨ (o' id = .dead ∧ o id ≠ .free)) : Le ⟨e, o⟩ ⟨e', o'⟩ := ⟨he, ho⟩
def none_ : Nat → AV := fun _ => .any
theorem lee_none (e : Nat → AV) : ∀ t, none_ t = .any ∨ none_ t = e t := fun _ => .inl rfl
theorem lee_upd {e e' : Nat → AV} (d : Nat) (av : AV) (hd : e d = av) (h : ∀ t, e' t = .any ∨ e' t = e t) : ∀ t, upd e' d av t = .any ∨ upd e' d av t = e t := by
  intro t
  by_cases ht : t = d
  · subst ht
    rw [upd_same]
    exact .inr hd.symm
  · rw [upd_ne _ _ ht]
    exact h t
theorem leo_refl (o : Nat → OSt) : ∀ id, o id = o id ∨ (o id = .dead ∧ o id ≠ .free) := fun _ => .inl rfl

/-! loops -/
theorem wp_loop_ix {ι : Type} {c : Code} {Q : Exit → Act → World → Prop} (I : ι → Act → World → Prop) (μ : ι → Nat)
    (round : ∀ i a w, I i a w → c.wp P (Exit.then (fun a' w' => ∃ j, μ j < μ i ∧ I j a' w') Q) a w) : ∀ i a w, I i a w → (Code.loop c).wp P Q a w := by
  intro i a w h0 b k cs
  have key : ∀ n i a w, μ i = n → I i a w → ∃ e a' w', Q e a' w' ∧ Arrives P (lone (b.at a (.code c :: .inLoop c :: k)) cs w) b k cs e a' w' := by
    intro n
    induction n using Nat.strongRecOn with
    | _ n ih =>
      intro i a w hn hI
      obtain ⟨e, a1, w1, hq, harr⟩ := round i a w hI b (.inLoop c :: k) cs
      cases e with
      | normal =>
        obtain ⟨j, hlt, hj⟩ := hq
        obtain ⟨e2, a2, w2, hq2, harr2⟩ := ih (μ j) (hn ▸ hlt) j a1 w1 rfl hj
        exact ⟨e2, a2, w2, hq2, .of_steps (Steps.trans harr (.one step_inLoop)) harr2⟩
      | exit id => exact ⟨_, a1, w1, hq, .pass (x := .inLoop c) rfl (fun _ _ => .inl (by simp)) harr⟩
      | goto l => exact ⟨_, a1, w1, hq, .pass (x := .inLoop c) rfl (fun _ _ => .inl (by simp)) harr⟩
      | ret => exact ⟨_, a1, w1, hq, .pass (x := .inLoop c) rfl (fun _ _ => .inl (by simp)) harr⟩
      | panic ch => exact ⟨_, a1, w1, hq, .pass (x := .inLoop c) rfl (fun _ _ => .inl (by simp)) harr⟩
      | outgrown => exact ⟨_, a1, w1, hq, .pass (x := .inLoop c) rfl (fun _ _ => .inl (by simp)) harr⟩
  obtain ⟨e, a', w', hq, harr⟩ := key _ i a w rfl h0
  exact ⟨e, a', w', hq, .of_steps (.one step_loop) harr⟩

/-- A loop: a family of states; each round ends in one of a smaller measure, or leaves. -/
theorem awp_loop {ι : Type} {c : Code} (I : ι → St) (μ : ι → Nat) (i0 : ι) (h0 : Le st (I i0))
    (round : ∀ i, AWP P E c (I i) (thenQ (fun s => ∃ j, μ j < μ i ∧ Le s (I j)) Q)) : AWP P E (.loop c) st Q := by
  intro a w hs
  refine wp_loop_ix (fun i a w => SRel E (I i) a w) μ (fun i a w hi => ?_) i0 a w (hs.le h0)
  refine wp_mono (round i a w hi) ?_
  rintro e a' w' ⟨s, h1, h2⟩
  cases e with
  | normal =>
    obtain ⟨j, hj, hl⟩ := h2
    exact ⟨j, hj, h1.le hl⟩
  | _ => exact ⟨s, h1, h2⟩

/-! regions whose order is the text's -/
/-- What a guard makes of a value. -/
def yv : Value → Option Bool
  | .bool b => some b
  | _ => none
section
variable (P E)
def Imp (s s' : St) : Prop := ∀ a w, SRel E s a w → SRel E s' a w
def AOps (ops : Array Oper) : List Oper → St → (St → Prop) → Prop
  | [], st, K => ∃ s, Imp E st s ∧ K s
  | o :: rest, st, K => ∃ s, Imp E st s ∧
    match o.guard with
    | none => AOp P E o s fun s => AOps ops rest s K
    | some (j, want) => ∃ (t : Nat) (u : Value), (ops[j]?).bind (·.dst) = some t ∧ t < E.N ∧ s.env t = .v u ∧
        (yv u = some want → AOp P E o s fun s => AOps ops rest s K) ∧ (yv u ≠ some want → (∀ d, o.dst = some d → d < E.N) ∧ AOps ops rest (s.put o.dst (.v undef)) K)
end
theorem Imp.refl (E : Env0) (s : St) : Imp E s s := fun _ _ h => h
theorem Imp.trans {E : Env0} {s t u : St} (h : Imp E s t) (k : Imp E t u) : Imp E s u := fun a w x => k a w (h a w x)
theorem imp_le {E : Env0} {s s' : St} (h : Le s s') : Imp E s s' := fun _ _ hs => hs.le h
theorem ops_imp {ops : Array Oper} {l : List Oper} {s s' : St} {K : St → Prop} (hi : Imp E s s') (h : AOps P E ops l s' K) : AOps P E ops l s K := by
  cases l with
  | nil => obtain ⟨x, h1, h2⟩ := h; exact ⟨x, hi.trans h1, h2⟩
  | cons o r => obtain ⟨x, h1, h2⟩ := h; exact ⟨x, hi.trans h1, h2⟩

theorem yielded_of {ops : Array Oper} {C : Ctx} {a : Act} {w : World} {j t : Nat} {u : Value} (hs : SR E C st a w) (hj : (ops[j]?).bind (·.dst) = some t) (ht : t < E.N) (he : st.env t = .v u) : yielded ops a.tmps j = yv u := by
  have h1 := hs.env t ht
  rw [he] at h1
  have h2 := R.bool_inv h1
  have hlt : t < a.tmps.size := by rw [hs.size]; exact ht
  unfold yielded
  rw [hj]
  simp [hlt] at h2 ⊢
  rw [h2]
  cases u <;> rfl

theorem wpOps_of_aops {ops : Array Oper} {Q : Exit → Act → World → Prop} {K : St → Prop} (hq : ∀ st' a' w', SRel E st' a' w' → K st' → Q .normal a' w') (l : List Nat) :
    ∀ (os : List Oper), os.map some = l.map (fun i => ops[i]?) → ∀ (st : St) (a : Act) (w : World), SRel E st a w → AOps P E ops os st K → wpOps P ops Q l a w := by
  induction l with
  | nil =>
    intro os hl st a w hs h
    cases os with
    | nil => obtain ⟨s, h1, h2⟩ := h; exact hq s a w (h1 a w hs) h2
    | cons o os => simp at hl
  | cons i l ih =>
    intro os hl st a w hs h
    cases os with
    | nil => simp at hl
    | cons o os =>
      simp only [List.map_cons, List.cons.injEq] at hl
      obtain ⟨h0, hl⟩ := hl
      simp only [wpOps, ← h0]
      unfold AOps at h
      obtain ⟨s0, hi0, h⟩ := h
      replace hs := hi0 a w hs
      cases hg : o.guard with
      | none =>
        rw [hg] at h
        have hw : Region.wanted o (yielded ops a.tmps) = true := by simp [Region.wanted, hg]
        rw [if_pos hw]
        refine .inl (Oper.wp_mono ?_ (h a w Q hs))
        rintro a' w' ⟨s, h1, h2⟩
        exact ih os hl s a' w' h1 h2
      | some jw =>
        obtain ⟨j, want⟩ := jw
        rw [hg] at h
        obtain ⟨t, u, hj, ht, he, hyes, hno⟩ := h
        obtain ⟨C, hs'⟩ := hs
        have hy := yielded_of hs' hj ht he
        by_cases hb : yv u = some want
        · have hw : Region.wanted o (yielded ops a.tmps) = true := by simp [Region.wanted, hg, hy, hb]
          rw [if_pos hw]
          refine .inl (Oper.wp_mono ?_ (hyes hb a w Q ⟨C, hs'⟩))
          rintro a' w' ⟨s, h1, h2⟩
          exact ih os hl s a' w' h1 h2
        · have hw : Region.wanted o (yielded ops a.tmps) = false := by simp [Region.wanted, hg, hy, hb]
          rw [if_neg (by simp [hw])]
          obtain ⟨hd, hr⟩ := hno hb
          exact ih os hl _ _ w ⟨C, hs'.set o.dst hd (.v undef) undef (fun _ => .v _)⟩ hr

theorem map_range_get {α : Type} (l : List α) : l.map some = (List.range l.length).map (fun i => l[i]?) := by
  apply List.ext_getElem?
  intro i
  simp only [List.getElem?_map]
  rcases Nat.lt_or_ge i l.length with h | h
  · rw [List.getElem?_eq_getElem h, List.getElem?_eq_getElem (by simpa using h)]
    simp [h]
  · rw [List.getElem?_eq_none h, List.getElem?_eq_none (by simpa using h)]
    rfl

theorem awp_region {id : Nat} {ops : Array Oper} (h : AOps P E ops ops.toList st (fun s => Q .normal s)) : AWP P E (.region id ops false) st Q := by
  intro a w hs
  refine wp_region (wpOps_of_aops (E := E) (K := fun s => Q .normal s) (fun st' a' w' h1 h2 => ⟨st', h1, h2⟩) _ ops.toList ?_ st a w hs h)
  have := map_range_get ops.toList
  simpa using this
end
end Go.Lo
