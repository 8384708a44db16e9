/- Where a train was, by numbers: plain. -/
import Derived.Test.YtpgbplgljfjhnaaCh
import Derived.Test.YtpgbplgljfjhnaaDr
set_option linter.unusedVariables false
set_option linter.unusedSimpArgs false
namespace Go.Lo
theorem fretC5 {P : Program} {E : Env0} {fn : Func} {s : St} {p1 t1 n1 p2 t2 n2 p3 t3 n3 q1 q2 : Nat} {v1 v2 v3 a1 a2 : AV} {ce1 cs1 ce2 cs2 ce3 cs3 : List AV} {res : AV} (hres : fn.results = #[.cell p1 t1, .cell p2 t2, .cell p3 t3, .tmp q1, .tmp q2])
    (hp1 : Nat.blt p1 E.N = true) (hb1 : aggT P t1 = some true) (hs1 : (P.info? t1).map (·.size) = some n1) (hx1 : s.env p1 = v1) (hc1 : ptC s.ob v1 = some ce1) (hl1 : n1 ≤ ce1.length) (hcs1 : ce1.take n1 = cs1)
    (hp2 : Nat.blt p2 E.N = true) (hb2 : aggT P t2 = some true) (hs2 : (P.info? t2).map (·.size) = some n2) (hx2 : s.env p2 = v2) (hc2 : ptC s.ob v2 = some ce2) (hl2 : n2 ≤ ce2.length) (hcs2 : ce2.take n2 = cs2)
    (hp3 : Nat.blt p3 E.N = true) (hb3 : aggT P t3 = some true) (hs3 : (P.info? t3).map (·.size) = some n3) (hx3 : s.env p3 = v3) (hc3 : ptC s.ob v3 = some ce3) (hl3 : n3 ≤ ce3.length) (hcs3 : ce3.take n3 = cs3)
    (hq1 : Nat.blt q1 E.N = true) (ha1 : s.env q1 = a1) (hq2 : Nat.blt q2 E.N = true) (ha2 : s.env q2 = a2) (hav : AV.tup [.agg cs1, .agg cs2, .agg cs3, a1, a2] = res) [hno : NoI res] :
    RetC P E fn (fun r n => r = res ∧ n = []) s := by
  subst hav
  refine ⟨_, hno.out, ⟨rfl, rfl⟩, fun a w C hs => ?_⟩
  obtain ⟨ad1, u1, h1, k1, r1⟩ := cell_run (P := P) hs hp1 hb1 hs1 hx1 hc1 hl1 hcs1
  obtain ⟨ad2, u2, h2, k2, r2⟩ := cell_run (P := P) hs hp2 hb2 hs2 hx2 hc2 hl2 hcs2
  obtain ⟨ad3, u3, h3, k3, r3⟩ := cell_run (P := P) hs hp3 hb3 hs3 hx3 hc3 hl3 hcs3
  rw [Array.getD_eq_getD_getElem?] at h1 h2 h3
  have h4 := hs.env q1 (blt_lt hq1)
  rw [ha1, Array.getD_eq_getD_getElem?] at h4
  have h5 := hs.env q2 (blt_lt hq2)
  rw [ha2, Array.getD_eq_getD_getElem?] at h5
  refine ⟨.tuple #[u1, u2, u3, (a.tmps[q1]?).getD undef, (a.tmps[q2]?).getD undef], by simp [results, hres, asAddr, h1, k1, h2, k2, h3, k3], .tup _ _ rfl fun j c hj => ?_⟩
  match j, hj with
  | 0, hj => simp at hj; subst hj; exact r1
  | 1, hj => simp at hj; subst hj; exact r2
  | 2, hj => simp at hj; subst hj; exact r3
  | 3, hj => simp at hj; subst hj; exact h4
  | 4, hj => simp at hj; subst hj; exact h5
  | j + 5, hj => simp at hj

structure Spot where
  fr : Int
  lg : Int
  turns : List Int
  ahd : Int
  heard : Int
  ticks : Int
  speed : Int
  right : List Bool
def eSp (x : Spot) : List AV := [.v (.int .u8 x.fr), .v (.int .u8 x.lg), .ro x.turns.length (enc eU8 x.turns), .v (.int .u16 x.ahd), .v (.int .u16 x.heard), .v (.int .u16 x.ticks), .v (.int .u16 x.speed), .ro x.right.length (enc eB x.right)]
structure SpotOk (x : Spot) : Prop where
  fr : 0 ≤ x.fr ∧ x.fr ≤ 255
  lg : 0 ≤ x.lg ∧ x.lg ≤ 255
  turns : ∀ y, y ∈ x.turns → 0 ≤ y ∧ y ≤ 255
  ahd : 0 ≤ x.ahd ∧ x.ahd ≤ 65535
  heard : 0 ≤ x.heard ∧ x.heard ≤ 65535
  ticks : 0 ≤ x.ticks ∧ x.ticks ≤ 65535
  speed : 0 ≤ x.speed ∧ x.speed ≤ 65535
  tl : x.turns.length ≤ maxLen
  rl : x.right.length ≤ maxLen
def littleB (d : Draft) (x : Spot) : Bool := smallB d.rs && decide ((x.turns.length : Int) ≤ 12) && decide ((x.right.length : Int) ≤ 20)
theorem little_iff {d : Draft} {x : Spot} (h : littleB d x = true) : smallB d.rs = true ∧ x.turns.length ≤ 12 ∧ x.right.length ≤ 20 := by
  simp only [littleB, Bool.and_eq_true, decide_eq_true_eq] at h
  exact ⟨h.1.1, by omega, by omega⟩
/-- The walk behind a train; which way it goes; how far its front is from the end. -/
def wk (d : Draft) (x : Spot) : List Int := walkL (mkSecs d.form d.len) (mkPts d.form) (x.fr % ((mkSecs d.form d.len).length : Int)) (x.fr / 128) x.turns (1 + x.lg % 5)
def dr (x : Spot) : Int := 1 - x.fr / 128
def ah (d : Draft) (x : Spot) : Int := x.ahd % (lenI (mkSecs d.form d.len) ((wk d x).getD 0 0) + 1)
/-! ### walks -/
theorem walkR_spec (secs : List Sec) (pts : List Pnt) (turns : List Int) (s e most : Int) : ∀ (f i : Nat), ∃ j, i ≤ j ∧ walkR secs pts turns s e most f i = (wst secs pts turns s e j).out ∧ ∀ k, i ≤ k → k < j → wstop secs pts turns s e most k = false
  | 0, i => ⟨i, Nat.le_refl _, rfl, fun k h1 h2 => by omega⟩
  | f + 1, i => by
    unfold walkR
    split
    · exact ⟨i, Nat.le_refl _, rfl, fun k h1 h2 => by omega⟩
    · rename_i h
      obtain ⟨j, h1, h2, h3⟩ := walkR_spec secs pts turns s e most f (i + 1)
      refine ⟨j, by omega, h2, fun k k1 k2 => ?_⟩
      rcases Nat.lt_or_ge i k with h4 | h4
      · exact h3 k (by omega) k2
      · have : k = i := by omega
        subst this; simpa using h
structure WOk (secs : List Sec) (l : List Int) : Prop where
  pos : 0 < l.length
  nd : l.Nodup
  rg : ∀ x, x ∈ l → 0 ≤ x ∧ x < (secs.length : Int)
theorem wst_ok {secs : List Sec} {pts : List Pnt} {turns : List Int} {s e most : Int} (hs : 0 ≤ s ∧ s < (secs.length : Int)) : ∀ j, (∀ k, 0 ≤ k → k < j → wstop secs pts turns s e most k = false) → WOk secs (wst secs pts turns s e j).out
  | 0, _ => ⟨by simp [wst], by simp [wst], fun x hx => by simp [wst] at hx; subst hx; exact hs⟩
  | j + 1, h => by
    have ih := wst_ok (turns := turns) (e := e) (most := most) (pts := pts) hs j fun k h1 h2 => h k h1 (by omega)
    have hj := h j (Nat.zero_le _) (by omega)
    simp only [wstop, Bool.or_eq_false_iff, decide_eq_false_iff_not] at hj
    have hx := around_sec (getD_mem dE (legK_lt (turns := turns) (i := j) (n := (aroundL secs pts (wst secs pts turns s e j).s (wst secs pts turns s e j).e).length) (by omega)))
    refine ⟨by rw [wst_len]; omega, ?_, fun x hx' => ?_⟩
    · show ((wst secs pts turns s e j).out ++ [_]).Nodup
      refine List.nodup_append.2 ⟨ih.nd, List.nodup_cons.2 ⟨by simp, List.nodup_nil⟩, fun a ha b hb e' => ?_⟩
      rw [List.mem_singleton.1 hb] at e'
      rw [e'] at ha
      exact hj.2 ha
    · rcases List.mem_append.1 (show x ∈ (wst secs pts turns s e j).out ++ [_] from hx') with h5 | h5
      · exact ih.rg x h5
      · rw [List.mem_singleton.1 h5]; exact hx
theorem walk_ok {secs : List Sec} {pts : List Pnt} {turns : List Int} {s e most : Int} (hs : 0 ≤ s ∧ s < (secs.length : Int)) : WOk secs (walkL secs pts s e turns most) := by
  obtain ⟨j, _, h2, h3⟩ := walkR_spec secs pts turns s e most most.toNat 0
  unfold walkL
  rw [h2]
  exact wst_ok hs j h3
theorem mkSecsK_lenB (form len : Int) : ∀ (k : Nat) (x : Sec), x ∈ mkSecsK form len k → 1 ≤ x.len ∧ x.len ≤ 65536
  | 0, x, h => by cases h
  | k + 1, x, h => by
    rcases List.mem_append.1 (show x ∈ mkSecsK form len k ++ [_] from h) with h | h
    · exact mkSecsK_lenB form len k x h
    · rw [List.mem_singleton.1 h]; show 1 ≤ 2 * unitI len + (k : Int) % 3 ∧ 2 * unitI len + (k : Int) % 3 ≤ 65536; unfold unitI; omega
theorem mkSecs_lenB (form len : Int) : ∀ x, x ∈ mkSecs form len → 1 ≤ x.len ∧ x.len ≤ 65536 := mkSecsK_lenB form len _
structure SpotF (d : Draft) (x : Spot) : Prop where
  ok : WOk (mkSecs d.form d.len) (wk d x)
  len : (wk d x).length ≤ 6
  dr : dr x = 0 ∨ dr x = 1
  l0 : 1 ≤ lenI (mkSecs d.form d.len) ((wk d x).getD 0 0) ∧ lenI (mkSecs d.form d.len) ((wk d x).getD 0 0) ≤ 65536
  ah : 0 ≤ ah d x ∧ ah d x ≤ lenI (mkSecs d.form d.len) ((wk d x).getD 0 0)
theorem spotF {d : Draft} {x : Spot} (h : SpotOk x) : SpotF d x := by
  have hel := mkEnds_len d.form
  have hsl := mkSecs_len d.form d.len
  have h1 := h.fr
  have h2 := h.lg
  have h3 := h.ahd
  have hok : WOk (mkSecs d.form d.len) (wk d x) := walk_ok (modB (by omega))
  have hl : (wk d x).length ≤ (1 + x.lg % 5).toNat + 1 := walkL_len _ _ _ _ _ _
  have hl0 := lenI_in (mkSecs_lenB d.form d.len) (hok.rg _ (getD_mem 0 hok.pos))
  have hm := modB (a := x.ahd) (b := lenI (mkSecs d.form d.len) ((wk d x).getD 0 0) + 1) (by omega)
  exact ⟨hok, by omega, by unfold Go.Lo.dr; omega, hl0, by unfold Go.Lo.ah; omega⟩
/-! ### laws of layer 11 -/
theorem meets_swap (a b : List Int) : (b.any fun s => decide (s ∈ a)) = (a.any fun s => decide (s ∈ b)) := by
  have key : ∀ a b : List Int, (b.any fun s => decide (s ∈ a)) = true → (a.any fun s => decide (s ∈ b)) = true := fun a b h => by
    obtain ⟨x, h1, h2⟩ := List.any_eq_true.1 h
    exact List.any_eq_true.2 ⟨x, of_decide_eq_true h2, decide_eq_true h1⟩
  cases h1 : (b.any fun s => decide (s ∈ a)) <;> cases h2 : (a.any fun s => decide (s ∈ b)) <;> first | rfl | (rw [key _ _ h1] at h2; cases h2) | (rw [key _ _ h2] at h1; cases h1)
section
variable {secs : List Sec} {pts : List Pnt} {right : List Bool} {trail : List Int} {dir m : Int}
theorem reach_still (h : m ≤ 0) : reachF secs pts right trail dir m = rs0 trail dir m := by
  unfold reachF; rw [show m.toNat = 0 by omega]; rfl
theorem heard_law (h : m ≤ 0) (ht : 0 < trail.length) : spanF secs pts right trail dir m = trail ∧ frontS secs pts right trail dir m = trail.getD 0 0 ∧ frontE secs pts right trail dir m = dir := by
  obtain ⟨h1, h2, h3⟩ := reach_some (secs := secs) (pts := pts) (right := right) (dir := dir) (m := m) (show ¬ trail.length = 0 by omega)
  rw [h1, h2, h3, reach_still h]
  exact ⟨rfl, rfl, rfl⟩
end
theorem rsRun_ok {secs : List Sec} {pts : List Pnt} {right : List Bool} {trail : List Int} : ∀ (n : Nat) (r : RS), RsOk secs trail r → RsOk secs trail (rsRun secs pts right trail n r)
  | 0, r, h => h
  | n + 1, r, h => by
    unfold rsRun
    split
    · exact h
    · rename_i hs
      exact rsRun_ok n _ (rsOkN h (by simpa using hs))
theorem reachF_ok (secs : List Sec) (pts : List Pnt) (right : List Bool) (trail : List Int) (dir m : Int) : RsOk secs trail (reachF secs pts right trail dir m) := rsRun_ok _ _ (rsOk0 _ _ _ _ _)
theorem spanF_len {secs : List Sec} {pts : List Pnt} {right : List Bool} {trail : List Int} {dir m : Int} {n : Nat} (h : trail.length ≤ n) : (spanF secs pts right trail dir m).length ≤ secs.length + n := by
  unfold spanF
  split
  · simp
  · rw [rsL_len]; have := (reachF_ok secs pts right trail dir m).len; omega
def kH (d : Draft) (x : Spot) : Int := if x.speed % 10001 > 0 then ah d x / (x.speed % 10001) else 0
theorem kH_t {d : Draft} {x : Spot} (h : x.speed % 10001 > 0) : ah d x / (x.speed % 10001) = kH d x := by unfold kH; rw [if_pos h]
theorem kH_f {d : Draft} {x : Spot} (h : ¬ x.speed % 10001 > 0) : (0 : Int) = kH d x := by unfold kH; rw [if_neg h]
theorem kH_ok {d : Draft} {x : Spot} (h : 0 ≤ ah d x) (hs : 0 ≤ x.speed % 10001) : 0 ≤ kH d x ∧ kH d x ≤ ah d x ∧ kH d x * (x.speed % 10001) ≤ ah d x := by
  unfold kH
  split
  · exact ⟨Int.ediv_nonneg h hs, Int.ediv_le_self _ h, Int.ediv_mul_le _ (by omega)⟩
  · exact ⟨by omega, h, by simp; exact h⟩
theorem divH {a b : Int} (ha : 0 ≤ a) (h : b > 0) (hb : a ≤ 1000000) : binI .i64 .quo a b = .int .i64 (a / b) := by
  have h1 := Int.ediv_nonneg ha (by omega : (0 : Int) ≤ b)
  have h2 := Int.ediv_le_self b ha
  have h3 : a.tdiv b = a / b := Int.tdiv_eq_ediv_of_nonneg ha
  show Value.int .i64 (IntKind.i64.wrap (a.tdiv b)) = _
  rw [h3, IntWalk.i64_in _ (by omega)]
section
variable {secs : List Sec} {pts : List Pnt} {right : List Bool} {trail : List Int}
theorem run_ext : ∀ (n : Nat) (r : RS), ∃ pre, (rsRun secs pts right trail n r).ahead = r.ahead ++ pre
  | 0, r => ⟨[], by simp [rsRun]⟩
  | n + 1, r => by
    unfold rsRun
    split
    · exact ⟨[], by simp⟩
    · obtain ⟨pre, h⟩ := run_ext n (rsN secs pts right r)
      exact ⟨(nextV secs pts right r.s r.e).sec :: pre, by rw [h]; simp [rsN]⟩
theorem run_grow : ∀ (n1 n2 : Nat) (r1 r2 : RS), n1 ≤ n2 → r1.ahead = r2.ahead → r1.s = r2.s → r1.e = r2.e → r1.m ≤ r2.m → ∃ pre, (rsRun secs pts right trail n2 r2).ahead = (rsRun secs pts right trail n1 r1).ahead ++ pre
  | 0, n2, r1, r2, _, h1, _, _, _ => by
    obtain ⟨pre, h⟩ := run_ext (secs := secs) (pts := pts) (right := right) (trail := trail) n2 r2
    exact ⟨pre, by rw [h, ← h1]; rfl⟩
  | n1 + 1, n2, r1, r2, hn, h1, h2, h3, h4 => by
    cases hs : rsStop secs pts right trail r1 with
    | true =>
      obtain ⟨pre, h⟩ := run_ext (secs := secs) (pts := pts) (right := right) (trail := trail) n2 r2
      refine ⟨pre, ?_⟩
      rw [h, ← h1]
      unfold rsRun
      rw [if_pos hs]
    | false =>
      obtain ⟨a1, a2, a3, a4⟩ := rsStop_iff.1 hs
      have hs2 : rsStop secs pts right trail r2 = false := rs_no (by omega) (by rw [← h2, ← h3]; exact a2) (by rw [← h2, ← h3]; exact a3) (by rw [← h2, ← h3, ← h1]; exact a4)
      obtain ⟨n2', rfl⟩ : ∃ k, n2 = k + 1 := ⟨n2 - 1, by omega⟩
      unfold rsRun
      rw [if_neg (by simp [hs2]), if_neg (by simp [hs])]
      exact run_grow n1 n2' _ _ (by omega) (by simp [rsN, h1, h2, h3]) (by simp [rsN, h2, h3]) (by simp [rsN, h2, h3]) (by simp only [rsN, h2, h3]; omega)
theorem rsL_nodup {r : RS} (h : RsOk secs trail r) (ht : trail.Nodup) : (rsL trail r).Nodup := by
  unfold rsL
  refine List.nodup_append.2 ⟨List.pairwise_reverse.2 (h.nd.imp Ne.symm), ht, fun a ha b hb e => ?_⟩
  rw [e] at ha
  exact h.nt b (List.mem_reverse.1 ha) hb
theorem suffix_drop {α : Type} {a b c : List α} (h : b = c ++ a) : b.drop (b.length - a.length) = a := by
  subst h
  rw [List.length_append, Nat.add_sub_cancel, List.drop_left]
theorem grow_law {dir m1 m2 : Int} (ht : 0 < trail.length) (hnd : trail.Nodup) (h : m1 ≤ m2) :
    (spanF secs pts right trail dir m1).length ≤ (spanF secs pts right trail dir m2).length ∧ trail.length ≤ (spanF secs pts right trail dir m1).length ∧
    (spanF secs pts right trail dir m2).drop ((spanF secs pts right trail dir m2).length - (spanF secs pts right trail dir m1).length) = spanF secs pts right trail dir m1 ∧
    (spanF secs pts right trail dir m1).drop ((spanF secs pts right trail dir m1).length - trail.length) = trail ∧ (spanF secs pts right trail dir m2).Nodup := by
  have hn : ¬ trail.length = 0 := by omega
  rw [(reach_some (secs := secs) (pts := pts) (right := right) (dir := dir) (m := m1) hn).1, (reach_some (secs := secs) (pts := pts) (right := right) (dir := dir) (m := m2) hn).1]
  obtain ⟨pre, hp⟩ := run_grow (secs := secs) (pts := pts) (right := right) (trail := trail) m1.toNat m2.toNat (rs0 trail dir m1) (rs0 trail dir m2) (by omega) rfl rfl rfl h
  have hb : rsL trail (reachF secs pts right trail dir m2) = pre.reverse ++ rsL trail (reachF secs pts right trail dir m1) := by
    unfold rsL
    show (rsRun secs pts right trail m2.toNat (rs0 trail dir m2)).ahead.reverse ++ trail = _
    rw [hp]
    simp [reachF]
  have hd := suffix_drop hb
  refine ⟨by rw [hb]; simp, by rw [rsL_len]; omega, hd, suffix_drop (c := (reachF secs pts right trail dir m1).ahead.reverse) rfl, rsL_nodup (reachF_ok secs pts right trail dir m2) hnd⟩
end
def sp9 (x : Spot) : Int := if x.speed % 10001 > 9000 then 9000 else x.speed % 10001
theorem sp9_t {x : Spot} (h : x.speed % 10001 > 9000) : (9000 : Int) = sp9 x := by unfold sp9; rw [if_pos h]
theorem sp9_f {x : Spot} (h : ¬ x.speed % 10001 > 9000) : x.speed % 10001 = sp9 x := by unfold sp9; rw [if_neg h]
theorem sp9_r {x : Spot} (h : 0 ≤ x.speed) : 0 ≤ sp9 x ∧ sp9 x ≤ 9000 := by unfold sp9; split <;> omega
theorem grow_m {a b c e f : Int} (h1 : 0 ≤ a) (h2 : 0 ≤ b) (h3 : 0 ≤ c) (h4 : 0 ≤ e) : a * c - f ≤ (a + b) * (c + e) - f := by
  have : a * c ≤ (a + b) * (c + e) := Int.mul_le_mul (by omega) (by omega) h3 (by omega)
  omega
theorem subNat {a b : Nat} (h : b ≤ a) (h2 : a ≤ 1000000) : binI .i64 .sub (a : Int) (b : Int) = .int .i64 ((a - b : Nat) : Int) := by
  rw [subI (by omega)]
  congr 1
  omega
end Go.Lo
