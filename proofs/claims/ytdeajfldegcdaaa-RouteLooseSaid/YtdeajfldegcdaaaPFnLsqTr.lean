/- Part of the logic of values: what the law reaches. -/
import Derived.Test.YtdeajfldegcdaaaPFnLsqAu
import Derived.Test.YtdeajfldegcdaaaPFnLsqDr
set_option linter.unusedVariables false
set_option linter.unusedSimpArgs false
namespace Go.Lo
def eLp (x : Lk) : List AV := [.rp [.v (.int .i64 x.route), .v (.int .i64 x.train), .v (.int .i64 x.ends), .ro x.pieces.length (enc eU8 x.pieces)]]
instance (x : Lk) : NoIL (eLp x) := by unfold eLp; infer_instance
def hasR (routes : List (List Int)) (r : Int) : Bool := decide (r ≥ 0) && decide (r < (routes.length : Int))
def pthR (routes : List (List Int)) (r : Int) : List Int := (routes.getD r.toNat []).drop 1
def ixQ (routes : List (List Int)) (s : Int) (x : Lk) : Int := idxB (fun y => decide (s = y)) (pthR routes x.route)
def whQ (routes : List (List Int)) (s : Int) (x : Lk) : Bool := decide (ixQ routes s x ≥ 0) && (x.pieces.getD (ixQ routes s x).toNat 0 != 0)
def whoQ (routes : List (List Int)) (ls : List Lk) (s : Int) : Int := if idxB (whQ routes s) ls < 0 then -1 else (ls.getD (idxB (whQ routes s) ls).toNat dLk).route
def secQ (routes : List (List Int)) (ls : List Lk) (i : Nat) : Bool := decide (whoQ routes ls (i : Int) ≥ 0)
def secsQ (routes : List (List Int)) (ls : List Lk) (n k : Nat) : List Bool := (List.range k).map (secQ routes ls) ++ List.replicate (n - k) false
structure LkP (routes : List (List Int)) (x : Lk) : Prop where
 r : 0 ≤ x.route ∧ x.route < (routes.length : Int)
 ps : x.pieces.length + 1 = (routes.getD x.route.toNat []).length
 ln : (routes.getD x.route.toNat []).length ≤ 65536
section
variable {routes : List (List Int)} {ls : List Lk} {x : Lk} {s : Int} {k n : Nat}
theorem pth_len {r : Int} : (pthR routes r).length = (routes.getD r.toNat []).length - 1 := by unfold pthR; rw [List.length_drop]
theorem ixQ_r : ixQ routes s x = -1 ∨ (0 ≤ ixQ routes s x ∧ ixQ routes s x < ((pthR routes x.route).length : Int)) := idxB_range _ 0 _
theorem whoQ_at (hk : k < ls.length) (h : (ls.take k).any (whQ routes s) = false) (h2 : whQ routes s (ls.getD k dLk) = true) : whoQ routes ls s = (ls.getD k dLk).route := by
 have e := idxB_stop dLk hk h h2
 unfold whoQ
 rw [e, if_neg (by omega)]; rfl
theorem whoQ_no (hk : ls.length ≤ k) (h : (ls.take k).any (whQ routes s) = false) : whoQ routes ls s = -1 := by
 have e := idxB_end hk h
 unfold whoQ
 rw [e, if_pos (by omega)]
theorem secs_len (hk : k ≤ n) : (secsQ routes ls n k).length = n := by unfold secsQ; simp; omega
theorem secs_step (hk : k < n) : (secsQ routes ls n k).set k (secQ routes ls k) = secsQ routes ls n (k + 1) := by
 unfold secsQ
 rw [show n - k = (n - (k + 1)) + 1 by omega, List.replicate_succ, List.range_succ, List.map_append, List.append_assoc, List.set_append_right _ _ (by simp)]
 simp
end
def tnP (routes parts : List (List Int)) (st ow : List Int) (now : Int) (x : Lk) (i : Nat) : Int :=
 if x.pieces.getD i 0 = 2 then (if (st.getD ((pthR routes x.route).getD i 0).toNat 0 == 0) && !((x.pieces.take i).any fun b => b != 0) then 0 else 2)
 else if x.pieces.getD i 0 = 1 then
  (if (st.getD ((pthR routes x.route).getD i 0).toNat 0 == 1) && (ow.getD (partI parts ((pthR routes x.route).getD i 0)).toNat 0 == x.train) then 2
  else if (st.getD ((pthR routes x.route).getD i 0).toNat 0 == 0) && decide (x.ends ≥ 0) && decide (x.ends ≤ now) then 0 else 1)
 else x.pieces.getD i 0
section
variable {routes parts : List (List Int)} {st ow : List Int} {now r tr en : Int} {ps : List Int} {i : Nat}
theorem tn_2t (h : (ps.getD i 0 == 2) = true) (h1 : ((st.getD ((pthR routes r).getD i 0).toNat 0 == 0) && !((ps.take i).any fun b => b != 0)) = true) : 0 = tnP routes parts st ow now ⟨r, tr, en, ps⟩ i := by
 unfold tnP; rw [if_pos (by simpa using h), if_pos h1]
theorem tn_2f (h : (ps.getD i 0 == 2) = true) (h1 : ((st.getD ((pthR routes r).getD i 0).toNat 0 == 0) && !((ps.take i).any fun b => b != 0)) = false) : ps.getD i 0 = tnP routes parts st ow now ⟨r, tr, en, ps⟩ i := by
 have h0 : ps.getD i 0 = 2 := by simpa using h
 unfold tnP; rw [if_pos h0, if_neg (by rw [h1]; exact Bool.false_ne_true)]; exact h0
theorem tn_1a (h : (ps.getD i 0 == 2) = false) (h1 : (ps.getD i 0 == 1) = true) (h2 : ((st.getD ((pthR routes r).getD i 0).toNat 0 == 1) && (ow.getD (partI parts ((pthR routes r).getD i 0)).toNat 0 == tr)) = true) : 2 = tnP routes parts st ow now ⟨r, tr, en, ps⟩ i := by
 unfold tnP; rw [if_neg (by simpa using h), if_pos (by simpa using h1), if_pos h2]
theorem tn_1b (h : (ps.getD i 0 == 2) = false) (h1 : (ps.getD i 0 == 1) = true) (h2 : ((st.getD ((pthR routes r).getD i 0).toNat 0 == 1) && (ow.getD (partI parts ((pthR routes r).getD i 0)).toNat 0 == tr)) = false)
  (h3 : ((st.getD ((pthR routes r).getD i 0).toNat 0 == 0) && decide (en ≥ 0) && decide (en ≤ now)) = true) : 0 = tnP routes parts st ow now ⟨r, tr, en, ps⟩ i := by
 unfold tnP; rw [if_neg (by simpa using h), if_pos (by simpa using h1), if_neg (by rw [h2]; exact Bool.false_ne_true), if_pos h3]
theorem tn_1c (h : (ps.getD i 0 == 2) = false) (h1 : (ps.getD i 0 == 1) = true) (h2 : ((st.getD ((pthR routes r).getD i 0).toNat 0 == 1) && (ow.getD (partI parts ((pthR routes r).getD i 0)).toNat 0 == tr)) = false)
  (h3 : ((st.getD ((pthR routes r).getD i 0).toNat 0 == 0) && decide (en ≥ 0) && decide (en ≤ now)) = false) : ps.getD i 0 = tnP routes parts st ow now ⟨r, tr, en, ps⟩ i := by
 have h0 : ps.getD i 0 = 1 := by simpa using h1
 unfold tnP; rw [if_neg (by simpa using h), if_pos h0, if_neg (by rw [h2]; exact Bool.false_ne_true), if_neg (by rw [h3]; exact Bool.false_ne_true)]; exact h0
theorem tn_0 (h : (ps.getD i 0 == 2) = false) (h1 : (ps.getD i 0 == 1) = false) : ps.getD i 0 = tnP routes parts st ow now ⟨r, tr, en, ps⟩ i := by
 unfold tnP; rw [if_neg (by simpa using h), if_neg (by simpa using h1)]
end
def bzQ (routes : List (List Int)) (ls : List Lk) (sts : List Int) (s : Int) : Bool := (decide (s ≥ (sts.length : Int)) || (sts.getD s.toNat 0 != 0)) || decide (whoQ routes ls s ≥ 0)
def noQ (pts : List Pnt) (sts : List Int) (views : List View) (locked held : List Bool) (n : Need) : Bool := !(mayB pts sts views locked held n.point)
theorem fretP {t N : Nat} {s : St} {o o' : LObj} (id : Nat) (hN : Nat.blt t N = true) (hr : s.env t = .pt id 0) (hl : s.ob id = .live o) (ho : o = o') [hno : NoIL o.cells] : RetOk [t] (fun r ns => r = .pt 0 0 ∧ ns = [o']) N s := by
 subst ho
 exact ret1 id o (by simpa using hN) (by simp [mkA, hr, AV.map, ix]) (by simp only [List.map_cons, List.map_nil, mkA, hr]; exact .pt _ _ (by simp)) hl hno.out ⟨rfl, rfl⟩
theorem lend_rowX {ob : Nat → OSt} {id n : Nat} {o : LObj} {cs : List AV} (hl : ob id = .live o) (h : Lends ob o.cells cs) (hn : o.cells.length = n * o.esz) : Lend ob (.sl id 0 n) (.ro n cs) :=
 .sl id 0 n o cs hl (by rw [h.1, hn]) (by omega) (fun j a b hx hy => h.2 j a b (by rw [Nat.zero_add] at hx; exact hx) hy)
def tnK (routes parts : List (List Int)) (st ow : List Int) (now r tr en : Int) (ps : List Int) : Nat → List Int
 | 0 => ps
 | i + 1 => (tnK routes parts st ow now r tr en ps i).set i (tnP routes parts st ow now ⟨r, tr, en, tnK routes parts st ow now r tr en ps i⟩ i)
theorem tnK_len {routes parts : List (List Int)} {st ow : List Int} {now r tr en : Int} {ps : List Int} : ∀ k, (tnK routes parts st ow now r tr en ps k).length = ps.length
 | 0 => rfl
 | k + 1 => by show ((tnK routes parts st ow now r tr en ps k).set _ _).length = _; rw [List.length_set, tnK_len k]
def ovB (x : Lk) : Bool := !(x.pieces.any fun b => b != 0)
def rpU (v : Int) (n k : Nat) : List Int := List.replicate k v ++ List.replicate (n - k) 0
theorem rpU_len {v : Int} {n k : Nat} (h : k ≤ n) : (rpU v n k).length = n := by simp [rpU]; omega
theorem rpU_all (v : Int) (n : Nat) : rpU v n n = List.replicate n v := by simp [rpU]
theorem rpU_zero (v : Int) (n : Nat) : rpU v n 0 = List.replicate n 0 := by simp [rpU]
theorem encU_repl {k : Nat} {v : Int} : enc eU8 (List.replicate k v) = List.replicate k (.v (.int .u8 v)) := enc_rep k v _ rfl
theorem rpU_spl {v : Int} {n j i : Nat} (h : j + i ≤ n) : spl (enc eU8 (rpU v n j)) (j * 1) (enc eU8 (List.replicate i v)) = enc eU8 (rpU v n (j + i)) := by
 unfold spl rpU
 rw [enc_append, enc_append, encU_repl, encU_repl, encU_repl, encU_repl, encU_repl, Nat.mul_one, List.length_replicate]
 rw [List.take_append_of_le_length (by simp), List.take_of_length_le (by simp), List.drop_append, List.drop_of_length_le (by simp), List.nil_append, List.length_replicate, List.drop_replicate]
 rw [← List.replicate_append_replicate, show n - j - (j + i - j) = n - (j + i) by omega]
theorem rpU_take {v : Int} {n j i : Nat} (h : i ≤ j) : (enc eU8 (rpU v n j)).take (i * 1) = enc eU8 (List.replicate i v) := by
 unfold rpU
 rw [enc_append, encU_repl, encU_repl, encU_repl, Nat.mul_one, List.take_append_of_le_length (by simp; exact h), List.take_replicate, Nat.min_eq_left h]
theorem dep_via {ops : Array Oper} {b : Nat → Bool} {i j : Nat} (h : ((ops[i]?).any fun o => o.after.any fun e => Region.binds .any e && e.on == j) = true) (hcl : ∀ j oj, ops[j]? = some oj → b j = true → ∀ e ∈ oj.after, Region.binds .any e = true → b e.on = true) (hb : b i = true) : b j = true := by
 obtain ⟨o, ho, h1⟩ := (Option.any_eq_true _ _).1 h
 exact dep_of h1 (hcl i _ ho hb)
theorem lend_row0 {ob : Nat → OSt} {id : Nat} {o : LObj} (hl : ob id = .live o) : Lend ob (.sl id 0 0) (.ro 0 []) :=
 .sl id 0 0 o [] hl (by simp) (by omega) (fun j a b hx hy => by simp at hy)
theorem r_nil {w : World} {C : Ctx} {u : Value} (h : R w C (.v (.slice none 0 0)) u) : R w C (.ro 0 []) u := by
 have := h.v_inv
 subst this
 exact .ro 0 0 none [] (fun _ => undef) (Nat.le_refl _) (by decide) (fun _ => ⟨rfl, rfl⟩) (by simp) (by simp)
def ArgsN : List AV → List AV → Prop
 | [], [] => True
 | a :: as, b :: bs => (b = a ∨ (a = .ro 0 [] ∧ b = .v (.slice none 0 0))) ∧ ArgsN as bs
 | _, _ => False
theorem argsN_len : ∀ {as bs : List AV}, ArgsN as bs → as.length = bs.length
 | [], [], _ => rfl
 | _ :: _, _ :: _, h => by simp [argsN_len h.2]
 | [], _ :: _, h => h.elim
 | _ :: _, [], h => h.elim
theorem argsN_get : ∀ {as bs : List AV}, ArgsN as bs → ∀ (j : Nat) (a : AV), as[j]? = some a → bs[j]? = some a ∨ (a = .ro 0 [] ∧ bs[j]? = some (.v (.slice none 0 0)))
 | [], [], _, j, a, h1 => by simp at h1
 | a :: as, b :: bs, h, 0, x, h1 => by simp at h1; subst h1; exact h.1.elim (fun e => .inl (by simp [e])) (fun e => .inr ⟨e.1, by simp [e.2]⟩)
 | a :: as, b :: bs, h, j + 1, x, h1 => by have := argsN_get h.2 j x (by simpa using h1); simpa using this
 | [], _ :: _, h, _, _, _ => h.elim
 | _ :: _, [], h, _, _, _ => h.elim
theorem fnG_nil {P : Program} {f : FuncId} {giv : List LObj} {args args' : List AV} {post : AV → List OSt → Prop} (h : FnG P f giv args post) (hn : ArgsN args args') : FnG P f giv args' post :=
 fun w C vs hsz hob hL hR => h w C vs (hsz.trans (argsN_len hn).symm) hob hL (fun j av hj => (argsN_get hn j av hj).elim (fun h2 => hR j av h2) (fun h2 => by rw [h2.1]; exact r_nil (hR j _ h2.2)))
theorem awp_countA {P : Program} {E : Env0} {st : St} {Q : Exit → St → Prop} {c : Code} (I J : Nat → St) (n : Nat) (h0 : Imp E st (I 0))
  (round : ∀ k, k ≤ n → AWP P E c (I k) (thenQ (fun s => k < n ∧ (Imp E s (I (k + 1)) ∨ Imp E s (J (k + 1)))) Q))
  (roundJ : ∀ k, k ≤ n → AWP P E c (J k) (thenQ (fun s => k < n ∧ Imp E s (J (k + 1))) Q)) : AWP P E (.loop c) st Q := by
 refine awp_loopI (ι := { k : Nat // k ≤ n } × Bool) (fun x => match x.2 with | false => I x.1.1 | true => J x.1.1) (fun x => n - x.1.1) (⟨0, Nat.zero_le _⟩, false) h0 (fun x => ?_)
 obtain ⟨⟨k, hk⟩, b⟩ := x
 cases b with
 | false =>
  refine AWP.mono (round k hk) (fun e s h => ?_)
  cases e with
  | normal =>
   obtain ⟨h1, h2⟩ := h
   exact h2.elim (fun h2 => ⟨(⟨k + 1, h1⟩, false), by show n - (k + 1) < n - k; omega, h2⟩) (fun h2 => ⟨(⟨k + 1, h1⟩, true), by show n - (k + 1) < n - k; omega, h2⟩)
  | _ => exact h
 | true =>
  refine AWP.mono (roundJ k hk) (fun e s h => ?_)
  cases e with
  | normal =>
   obtain ⟨h1, h2⟩ := h
   exact ⟨(⟨k + 1, h1⟩, true), by show n - (k + 1) < n - k; omega, h2⟩
  | _ => exact h
end Go.Lo
