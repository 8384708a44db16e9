/- Part of the logic of values: what the law reaches. -/
import Derived.Test.YtdeajfldegcdaaaPFnLsqAn
import Derived.Test.YtdeajfldegcdaaaPFnLsqTr
set_option linter.unusedVariables false
set_option linter.unusedSimpArgs false
namespace Go.Lo
section
variable {secs : List Sec} {pts : List Pnt} {routes : List (List Int)} {parts : List (List Int)}
theorem whoQ_nil (s : Int) : whoQ routes [] s = -1 := rfl
theorem secsQ_nil (n : Nat) : secsQ routes [] n n = List.replicate n false := by
 unfold secsQ
 rw [Nat.sub_self, List.replicate_zero, List.append_nil, List.eq_replicate_iff]
 refine ⟨by simp, fun b hb => ?_⟩
 obtain ⟨i, _, rfl⟩ := List.mem_map.1 hb
 rfl
theorem pth_in {k : Nat} (hL : LayOk secs parts pts routes) (hk : k < routes.length) : ∀ s, s ∈ pthR routes (k : Int) → 0 ≤ s ∧ s < (secs.length : Int) := fun s hs => by
 unfold pthR at hs
 rw [Int.toNat_natCast] at hs
 exact hL.hrs _ (getD_mem [] hk) s (List.mem_of_mem_drop hs)
theorem has_k {k : Nat} (hk : k < routes.length) : hasR routes (k : Int) = true := by unfold hasR; rw [Bool.and_eq_true]; exact ⟨decide_eq_true (by omega), decide_eq_true (by omega)⟩
theorem setK_free {k n : Nat} (h : ∀ s, s ∈ pthR routes (k : Int) → 0 ≤ s ∧ s < (n : Int)) : (!((pthR routes (k : Int)).any (bzQ routes [] (List.replicate n 0)))) = true := by
 cases hq : (pthR routes (k : Int)).any (bzQ routes [] (List.replicate n 0)) with
 | false => rfl
 | true =>
  obtain ⟨s, hs, h2⟩ := List.any_eq_true.1 hq
  have h3 := h s hs
  unfold bzQ at h2
  rw [List.length_replicate, rep_getD, whoQ_nil, decide_eq_false (by omega)] at h2
  cases h2
theorem setK_may {k : Nat} (hg : goodP secs.length pts (paL secs pts (routes.getD k [])) = true) :
  (movesL (paL secs pts (routes.getD (k : Int).toNat [])) []).any (noQ pts (List.replicate secs.length 0) [] (secsQ routes [] secs.length secs.length) (List.replicate pts.length false)) = false := by
 rw [Int.toNat_natCast]
 cases hq : (movesL (paL secs pts (routes.getD k [])) []).any (noQ pts (List.replicate secs.length 0) [] (secsQ routes [] secs.length secs.length) (List.replicate pts.length false)) with
 | false => rfl
 | true =>
  obtain ⟨z, hz, hz2⟩ := List.any_eq_true.1 hq
  unfold goodP at hg
  rw [Bool.and_eq_true] at hg
  have h2 := List.all_eq_true.1 hg.2 z (List.mem_filter.1 hz).1
  unfold noQ at hz2
  rw [secsQ_nil, h2] at hz2
  cases hz2
theorem setR_ok {r : Int} (hL : LayOk secs parts pts routes) (hT : topB secs pts = true) (hc : chkA secs pts = true) (hw : AllWk secs pts routes) (hnd : ∀ x, x ∈ routes → x.Nodup) (h0 : 0 ≤ r ∧ r < (routes.length : Int)) :
  hasR routes r = true ∧ (2 ≤ (routes.getD r.toNat []).length ∧ (routes.getD r.toNat []).length ≤ 8) ∧ (routes.getD r.toNat []).Nodup ∧ (∀ s, s ∈ pthR routes r → 0 ≤ s ∧ s < (secs.length : Int)) ∧
  (!((pthR routes r).any (bzQ routes [] (List.replicate secs.length 0)))) = true ∧
  (movesL (paL secs pts (routes.getD r.toNat [])) []).any (noQ pts (List.replicate secs.length 0) [] (secsQ routes [] secs.length secs.length) (List.replicate pts.length false)) = false := by
 obtain ⟨k, rfl⟩ := Int.eq_ofNat_of_zero_le h0.1
 have hk : k < routes.length := by omega
 have hp : routes.getD k [] ∈ routes := getD_mem [] hk
 have h8 := nd_len (hnd _ hp) (hL.hrs _ hp)
 have hs := hL.hs
 exact ⟨has_k hk, ⟨(hL.hrl _ hp).1, by show (routes.getD k []).length ≤ 8; omega⟩, hnd _ hp, pth_in hL hk, setK_free (pth_in hL hk), setK_may (route_good hT hc hw hnd hL hp)⟩
end
def dnR : List (List Int) := [[0, 1]]
theorem dn_free : (!((pthR dnR 0).any (bzQ dnR [] [0, 0, 0]))) = true := by decide +kernel
theorem dn_may : (movesL (paL (mkSecs 0 0) (mkPts 0) (dnR.getD (0 : Int).toNat [])) []).any (noQ (mkPts 0) [0, 0, 0] [] (secsQ dnR [] (mkSecs 0 0).length (mkSecs 0 0).length) (List.replicate (mkPts 0).length false)) = false := by decide +kernel
theorem dn_part : ∀ s : Int, 0 ≤ s → s < ((3 : Nat) : Int) → 0 ≤ partI (mkParts 0 0) s ∧ partI (mkParts 0 0) s < ((3 : Nat) : Int) := by
 intro s h1 h2
 have : s = 0 ∨ s = 1 ∨ s = 2 := by omega
 rcases this with rfl | rfl | rfl <;> decide +kernel
abbrev dn1 : List Int := tnK dnR (mkParts 0 0) [0, 1, 0] [-2, 3, -2] 1 0 3 (-1) (List.replicate (pthR dnR 0).length 1) (List.replicate (pthR dnR 0).length (1 : Int)).length
theorem dn_1 : (dn1.any fun b => b != 0) = true := by decide +kernel
theorem dn_2 : ((tnK dnR (mkParts 0 0) [0, 0, 0] [-2, -2, -2] 2 0 3 (-1) dn1 dn1.length).any fun b => b != 0) = false := by decide +kernel
end Go.Lo
