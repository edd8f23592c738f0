/- What an argument's reading says of its value: a pair of ints, a float, a slice of pairs. -/
import Derived.OpenShut
import Derived.ProofKit
import Derived.Deep.Slices
import Derived.WalkKit
namespace Go.Pairs
open Go.ChangeShapes Go.WideShapes Go.ChangeAt Go.RowKit

section
variable {H : Type} {enc : TypeId × Value → H} {P : Program} {w : World} {base : Nat} {sp : Nat → Bool} {held : Bool} {r : Reach} {b0 : Nat}

theorem read_pair {t e : TypeId} {fuel : Nat} {cs : List Value} {x : DataW H × List MemPlace} (ht : P.underlying t = some (.array 2 e)) (he : P.underlying e = some (.int .i64)) (hce : P.cellsOf e = 1) (hc : P.cellsOf t = 2)
    (h : DataW.trod enc P w base sp held fuel t cs = some x) : ∃ a b, cs = [.int .i64 a, .int .i64 b] ∧ (Lit.int .i64 a).wf = true ∧ (Lit.int .i64 b).wf = true := by
  obtain ⟨xs, m, rfl, -, hl, hn, hel⟩ := DataW.trod_array ht h
  rw [hc] at hl
  have h0 := hel 0 (by omega)
  have h1 := hel 1 (by omega)
  rw [hce] at h0 h1
  match cs, hl with
  | [c0, c1], _ =>
    rw [List.getElem?_eq_getElem (by omega)] at h0 h1
    simp at h0 h1
    obtain ⟨a, e0, -, w0⟩ := DataW.trod_int he h0
    obtain ⟨b, e1, -, w1⟩ := DataW.trod_int he h1
    simp at e0 e1
    subst e0 e1
    exact ⟨a, b, rfl, w0, w1⟩

theorem open_pair {t e : TypeId} {v : Value} {d : DataW H} {ps : List MemPlace} (ht : P.underlying t = some (.array 2 e)) (he : P.underlying e = some (.int .i64)) (hce : P.cellsOf e = 1) (hc : P.cellsOf t = 2)
    (hval : Value.okWide P w r b0 t v) (h : DataW.Trod enc P w base sp held t v d ps) : ∃ a b, v = .agg #[.int .i64 a, .int .i64 b] ∧ (Lit.int .i64 a).wf = true ∧ (Lit.int .i64 b).wf = true := by
  unfold Value.okWide at hval
  rw [ht] at hval
  obtain ⟨cs, rfl, -, -⟩ := hval
  obtain ⟨fuel, hf⟩ := h
  obtain ⟨a, b, hcs, w0, w1⟩ := read_pair ht he hce hc hf
  refine ⟨a, b, ?_, w0, w1⟩
  simp only [Value.cells] at hcs
  rw [← Array.toArray_toList (xs := cs), hcs]

theorem open_float {t : TypeId} {q : FloatKind} {v : Value} {d : DataW H} {ps : List MemPlace} (ht : P.underlying t = some (.float q)) (h : DataW.Trod enc P w base sp held t v d ps) (hone : v.cells.toList = [v]) : ∃ b, v = .float q b := by
  obtain ⟨fuel, hf⟩ := h
  cases fuel with
  | zero => simp [DataW.trod] at hf
  | succ m =>
    rw [hone] at hf
    simp only [DataW.trod, ht] at hf
    split at hf <;> simp_all

end
end Go.Pairs
