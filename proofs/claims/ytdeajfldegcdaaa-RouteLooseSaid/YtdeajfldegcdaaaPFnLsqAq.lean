/- Part of the logic of values: what the law reaches. -/
import Derived.Test.YtdeajfldegcdaaaPFnLsqAp
set_option linter.unusedVariables false
set_option linter.unusedSimpArgs false
namespace Go.Lo
theorem nd_sub : ∀ (l m : List Int), l.Nodup → (∀ y, y ∈ l → y ∈ m) → l.length ≤ m.length
 | [], m, _, _ => Nat.zero_le _
 | a :: l, m, h, hs => by
  have ha := hs a List.mem_cons_self
  have h2 := List.nodup_cons.1 h
  have ih := nd_sub l (m.erase a) h2.2 (fun y hy => (List.mem_erase_of_ne (fun he => h2.1 (by rw [← he]; exact hy))).2 (hs y (List.mem_cons_of_mem _ hy)))
  rw [List.length_erase_of_mem ha] at ih
  have := List.length_pos_of_mem ha
  rw [List.length_cons]; omega
theorem nd_len {l : List Int} {n : Nat} (h : l.Nodup) (hr : ∀ y, y ∈ l → 0 ≤ y ∧ y < (n : Int)) : l.length ≤ n := by
 have := nd_sub l ((List.range n).map Int.ofNat) h (fun y hy => by
  obtain ⟨h0, h1⟩ := hr y hy
  exact List.mem_map.2 ⟨y.toNat, List.mem_range.2 (by omega), by show ((y.toNat : Nat) : Int) = y; omega⟩)
 simpa using this
end Go.Lo
