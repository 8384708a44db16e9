/- Part of the logic of values: what the law reaches. -/
import Derived.Test.YtnjncdidiijpgaaPFnOfqAp
set_option linter.unusedVariables false
set_option linter.unusedSimpArgs false
namespace Go.Lo
def EnOk (ls : List Lk) : Prop := ∀ x, x ∈ ls → x.ends = -1 ∨ 0 ≤ x.ends
theorem en_can {routes : List (List Int)} {ls : List Lk} {r e : Int} (he : 0 ≤ e) (h : EnOk ls) : EnOk (canL routes ls r e) := fun x hx => by
 unfold canL at hx
 split at hx
 ·rcases List.mem_or_eq_of_mem_set hx with h1 | h1
  ·exact h x h1
  ·rw [h1]
   unfold endX; split
   ·exact .inr he
   ·rcases Nat.lt_or_ge (findL ls r).toNat ls.length with hl | hl
    ·exact h _ (getD_mem dLk hl)
    ·rw [List.getD_eq_getElem?_getD, List.getElem?_eq_none hl]; exact .inr (Int.le_refl 0)
 ·exact h x hx
theorem lkN_En {L : Lo_} {acts : List Act} (hc : 0 ≤ L.cn ∧ L.cn ≤ 65536) : ∀ i, i ≤ 65536 → EnOk (lkN L acts i)
 | 0, _ => fun x h => by cases h
 | i + 1, hi => by
  have ih := lkN_En (acts := acts) hc i (by omega)
  show EnOk (lkA L (acts.getD i dAc) i (lkN L acts i))
  unfold lkA
  split
  ·exact en_can (by rw [IntWalk.i64_in _ (by omega)]; omega) ih
  ·split
   ·intro x hx
    obtain ⟨z, hz, rfl⟩ := List.mem_map.1 hx
    exact ih z (List.mem_filter.1 hz).1
   ·unfold setL
    split
    ·intro x hx
     rcases List.mem_append.1 hx with h | h
     ·exact ih x h
     ·rw [List.mem_singleton.1 h]; exact .inl rfl
    ·exact ih
end Go.Lo
