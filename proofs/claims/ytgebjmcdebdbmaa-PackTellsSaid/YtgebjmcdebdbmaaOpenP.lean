/- A list of points, opened. -/
import Derived.Test.YtgebjmcdebdbmaaCheck1
import Derived.Test.YtgebjmcdebdbmaaOpen
import Derived.ChangeArms
namespace Go.Proofs.Ytgebjmcdebdbmaa
open Go.ChangeShapes Go.WideShapes Go.ChangeAt Go.RowKit Go.Pairs
section
variable {H : Type} {enc : TypeId × Value → H} {w : World} {base : Nat} {sp : Nat → Bool} {held : Bool} {r : Reach} {b0 : Nat}

theorem read_point {fuel : Nat} {cs : List Value} {x : DataW H × List MemPlace} (h : DataW.trod enc Try.prog w base sp held fuel 53 cs = some x) : ∃ a b c, cs = [Value.int .i64 a, Value.int .i64 b, Value.int .i64 c] := by
  obtain ⟨xs, n, _, rfl, hl, hlen, hf⟩ := DataW.trod_struct Try.underlying53 h
  rw [show Try.prog.cellsOf 53 = 3 by kernel_rfl] at hl
  match xs, hlen, cs, hl with
  | [y0, y1, y2], _, [c0, c1, c2], _ =>
    have h3 : Try.prog.cellsOf 3 = 1 := by kernel_rfl
    have h0 : DataW.trod enc Try.prog w base sp held n 3 [c0] = some y0 := by simpa [h3] using hf 0 _ rfl
    have h1 : DataW.trod enc Try.prog w base sp held n 3 [c1] = some y1 := by simpa [h3] using hf 1 _ rfl
    have h2 : DataW.trod enc Try.prog w base sp held n 3 [c2] = some y2 := by simpa [h3] using hf 2 _ rfl
    obtain ⟨a, e0, -⟩ := DataW.trod_int Try.underlying3 h0
    obtain ⟨b, e1, -⟩ := DataW.trod_int Try.underlying3 h1
    obtain ⟨c, e2, -⟩ := DataW.trod_int Try.underlying3 h2
    simp at e0 e1 e2
    exact ⟨a, b, c, by rw [e0, e1, e2]⟩

theorem open_points {v : Value} {d : DataW H} {ps : List MemPlace} (hval : Value.okWide Try.prog w r b0 35 v) (h : DataW.Trod enc Try.prog w base sp held 35 v d ps) : ∃ (so : Option Addr) (cap : Nat) (qs : List (Int × Int × Int)), v = .slice so qs.length cap ∧ PT w so qs := by
  rcases open_rows Try.underlying35 (show Try.prog.cellsOf 53 = 3 by kernel_rfl) (by omega) hval h with rfl | ⟨b, off, s, len, cap, CS, rfl, hl, hm, hs, hel⟩
  · exact ⟨none, 0, [], rfl, fun i hi => by simp at hi, by simp⟩
  · have hall : ∀ i, i < len → ∃ o : Int × Int × Int, CS i = [Value.int .i64 o.1, Value.int .i64 o.2.1, Value.int .i64 o.2.2] := by
      intro i hi
      obtain ⟨g1, g2, n, D, g3⟩ := hel i hi
      obtain ⟨a, b, c, e⟩ := read_point g3
      exact ⟨(a, b, c), e⟩
    obtain ⟨E, hE⟩ := Go.Deep.choose_lt hall
    refine ⟨some ⟨b, off, s⟩, cap, (List.range len).map E, by simp, fun i hi => ?_, by simp; unfold maxLen at hm; omega⟩
    have hi' : i < len := by simpa using hi
    obtain rfl := hs (by omega)
    obtain ⟨g1, g2, -⟩ := hel i hi'
    rw [hE i hi'] at g2
    refine ⟨b, off, rfl, ?_, ?_, ?_⟩
    · have := g2 0 (by omega); simpa using this
    · have := g2 1 (by omega); simpa [Nat.add_assoc] using this
    · have := g2 2 (by omega); simpa [Nat.add_assoc] using this
end
end Go.Proofs.Ytgebjmcdebdbmaa
