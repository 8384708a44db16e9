/- A table of four times four bytes, read as a datum: its cells. -/
import Derived.Test.YtmmdkioohjninaaDoorRd
set_option linter.unusedVariables false
set_option linter.unusedSimpArgs false
namespace Go.Lo
open Go.ChangeShapes Go.WideShapes Go.RowKit
section
variable {H : Type} {en : TypeId × Value → H} {P : Program} {w : World} {b : Nat} {sp : Nat → Bool} {held : Bool}
theorem arr4 {fuel : Nat} {t e : TypeId} {cs : List Value} {n0 n1 n2 n3 : Int} {p : List MemPlace} (ht : P.underlying t = some (.array 4 e)) (he : P.underlying e = some (.int .u8)) (hc : P.cellsOf e = 1) (hct : P.cellsOf t = 4)
    (h : DataW.trod en P w b sp held fuel t cs = some (.agg [.lit (.int .u8 n0), .lit (.int .u8 n1), .lit (.int .u8 n2), .lit (.int .u8 n3)], p)) : cs = [.int .u8 n0, .int .u8 n1, .int .u8 n2, .int .u8 n3] := by
  obtain ⟨xs, m, rfl, hx, hl, hn, hel⟩ := DataW.trod_array ht h
  rw [hct] at hl
  match xs, hn, cs, hl with
  | [x0, x1, x2, x3], _, [c0, c1, c2, c3], _ =>
    simp only [List.map_cons, List.map_nil, Prod.mk.injEq, DataW.agg.injEq, List.cons.injEq] at hx
    obtain ⟨⟨h0, h1, h2, h3, _⟩, _⟩ := hx
    have g : ∀ (c : Value) (n : Int) (x : DataW H × List MemPlace), DataW.trod en P w b sp held m e [c] = some x → .lit (.int .u8 n) = x.1 → c = .int .u8 n := fun c n x hc hx => by
      obtain ⟨k, e1, e2, _⟩ := DataW.trod_int he hc
      rw [e2] at hx
      simp only [DataW.lit.injEq, Lit.int.injEq, true_and] at hx
      rw [hx]
      simpa using e1
    have e0 := hel 0 (by decide)
    have e1 := hel 1 (by decide)
    have e2 := hel 2 (by decide)
    have e3 := hel 3 (by decide)
    rw [hc] at e0 e1 e2 e3
    rw [g c0 n0 x0 (by simpa using e0) h0, g c1 n1 x1 (by simpa using e1) h1, g c2 n2 x2 (by simpa using e2) h2, g c3 n3 x3 (by simpa using e3) h3]
theorem arr44 {fuel : Nat} {t e u : TypeId} {cs : List Value} {a0 a1 a2 a3 b0 b1 b2 b3 c0 c1 c2 c3 d0 d1 d2 d3 : Int} {p : List MemPlace} (ht : P.underlying t = some (.array 4 e)) (he : P.underlying e = some (.array 4 u)) (hu : P.underlying u = some (.int .u8)) (hc : P.cellsOf u = 1) (hce : P.cellsOf e = 4) (hct : P.cellsOf t = 16)
    (h : DataW.trod en P w b sp held fuel t cs = some (.agg [.agg [.lit (.int .u8 a0), .lit (.int .u8 a1), .lit (.int .u8 a2), .lit (.int .u8 a3)], .agg [.lit (.int .u8 b0), .lit (.int .u8 b1), .lit (.int .u8 b2), .lit (.int .u8 b3)], .agg [.lit (.int .u8 c0), .lit (.int .u8 c1), .lit (.int .u8 c2), .lit (.int .u8 c3)], .agg [.lit (.int .u8 d0), .lit (.int .u8 d1), .lit (.int .u8 d2), .lit (.int .u8 d3)]], p)) :
    cs = [.int .u8 a0, .int .u8 a1, .int .u8 a2, .int .u8 a3] ++ [.int .u8 b0, .int .u8 b1, .int .u8 b2, .int .u8 b3] ++ [.int .u8 c0, .int .u8 c1, .int .u8 c2, .int .u8 c3] ++ [.int .u8 d0, .int .u8 d1, .int .u8 d2, .int .u8 d3] := by
  obtain ⟨xs, m, rfl, hx, hl, hn, hel⟩ := DataW.trod_array ht h
  rw [hct] at hl
  match xs, hn with
  | [x0, x1, x2, x3], _ =>
    simp only [List.map_cons, List.map_nil, Prod.mk.injEq, DataW.agg.injEq, List.cons.injEq] at hx
    obtain ⟨⟨h0, h1, h2, h3, _⟩, _⟩ := hx
    have e0 := hel 0 (by decide)
    have e1 := hel 1 (by decide)
    have e2 := hel 2 (by decide)
    have e3 := hel 3 (by decide)
    rw [hce] at e0 e1 e2 e3
    have g : ∀ (l : List Value) (n0 n1 n2 n3 : Int) (x : DataW H × List MemPlace), DataW.trod en P w b sp held m e l = some x → .agg [.lit (.int .u8 n0), .lit (.int .u8 n1), .lit (.int .u8 n2), .lit (.int .u8 n3)] = x.1 → l = [.int .u8 n0, .int .u8 n1, .int .u8 n2, .int .u8 n3] := fun l n0 n1 n2 n3 x hl hx =>
      arr4 (p := x.2) he hu hc hce (by rw [hl, hx])
    have f0 := g _ _ _ _ _ x0 (by simpa using e0) h0
    have f1 := g _ _ _ _ _ x1 (by simpa using e1) h1
    have f2 := g _ _ _ _ _ x2 (by simpa using e2) h2
    have f3 := g _ _ _ _ _ x3 (by simpa using e3) h3
    rw [← f0, ← f1, ← f2, ← f3]
    have k1 : cs.drop 12 = (cs.drop 12).take 4 := by rw [List.take_of_length_le (by simp; omega)]
    rw [← k1]
    have k2 : cs.drop 8 = (cs.drop 8).take 4 ++ cs.drop 12 := by
      conv => lhs; rw [← List.take_append_drop 4 (cs.drop 8)]
      rw [List.drop_drop]
    have k3 : cs.drop 4 = (cs.drop 4).take 4 ++ cs.drop 8 := by
      conv => lhs; rw [← List.take_append_drop 4 (cs.drop 4)]
      rw [List.drop_drop]
    conv => lhs; rw [← List.take_append_drop 4 cs, k3, k2]
    simp only [List.append_assoc]
end
end Go.Lo
