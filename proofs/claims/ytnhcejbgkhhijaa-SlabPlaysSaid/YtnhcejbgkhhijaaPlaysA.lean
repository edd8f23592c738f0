/- SlabPlays: the argument opened; the walk at every input. -/
import Derived.Test.YtnhcejbgkhhijaaPlaysW
import Derived.Test.YtnhcejbgkhhijaaOpen
import Derived.ChangeArms
namespace Go.Proofs.Ytnhcejbgkhhijaa
open Go.ChangeShapes Go.WideShapes Go.ChangeAt Go.RowKit Go.Pairs
section
variable {H : Type} {enc : TypeId × Value → H} {w : World} {base : Nat} {sp : Nat → Bool} {held : Bool} {r : Reach} {b0 : Nat}

theorem read_handle {fuel : Nat} {cs : List Value} {x : DataW H × List MemPlace} (h : DataW.trod enc Try.prog w base sp held fuel 27 cs = some x) : ∃ a b, cs = [Value.int .i64 a, Value.int .i64 b] := by
  obtain ⟨xs, n, _, rfl, hl, hlen, hf⟩ := DataW.trod_struct Try.underlying27 h
  rw [show Try.prog.cellsOf 27 = 2 by kernel_rfl] at hl
  match xs, hlen, cs, hl with
  | [y0, y1], _, [c0, c1], _ =>
    have h3 : Try.prog.cellsOf 3 = 1 := by kernel_rfl
    have h0 : DataW.trod enc Try.prog w base sp held n 3 [c0] = some y0 := by simpa [h3] using hf 0 _ rfl
    have h1 : DataW.trod enc Try.prog w base sp held n 3 [c1] = some y1 := by simpa [h3] using hf 1 _ rfl
    obtain ⟨a, e0, -⟩ := DataW.trod_int Try.underlying3 h0
    obtain ⟨b, e1, -⟩ := DataW.trod_int Try.underlying3 h1
    simp at e0 e1
    exact ⟨a, b, by rw [e0, e1]⟩

theorem read_op {fuel : Nat} {cs : List Value} {x : DataW H × List MemPlace} (h : DataW.trod enc Try.prog w base sp held fuel 41 cs = some x) : ∃ o : Opv, cs = [Value.int .i64 o.kind, Value.int .i64 o.at_, Value.int .i64 o.x, Value.int .i64 o.h1, Value.int .i64 o.h2] := by
  obtain ⟨xs, n, _, rfl, hl, hlen, hf⟩ := DataW.trod_struct Try.underlying41 h
  rw [show Try.prog.cellsOf 41 = 5 by kernel_rfl] at hl
  match xs, hlen, cs, hl with
  | [y0, y1, y2, y3], _, [c0, c1, c2, c3, c4], _ =>
    have hc3 : Try.prog.cellsOf 3 = 1 := by kernel_rfl
    have hc27 : Try.prog.cellsOf 27 = 2 := by kernel_rfl
    have h0 : DataW.trod enc Try.prog w base sp held n 3 [c0] = some y0 := by simpa [hc3] using hf 0 _ rfl
    have h1 : DataW.trod enc Try.prog w base sp held n 3 [c1] = some y1 := by simpa [hc3] using hf 1 _ rfl
    have h2 : DataW.trod enc Try.prog w base sp held n 3 [c2] = some y2 := by simpa [hc3] using hf 2 _ rfl
    have h3 : DataW.trod enc Try.prog w base sp held n 27 [c3, c4] = some y3 := by simpa [hc27] using hf 3 _ rfl
    obtain ⟨a, e0, -⟩ := DataW.trod_int Try.underlying3 h0
    obtain ⟨b, e1, -⟩ := DataW.trod_int Try.underlying3 h1
    obtain ⟨c, e2, -⟩ := DataW.trod_int Try.underlying3 h2
    obtain ⟨d, e, e3⟩ := read_handle h3
    simp at e0 e1 e2 e3
    exact ⟨⟨a, b, c, d, e⟩, by rw [e0, e1, e2, e3.1, e3.2]⟩

instance : Inhabited Opv := ⟨⟨0, 0, 0, 0, 0⟩⟩

theorem open_ops {v : Value} {d : DataW H} {ps : List MemPlace} (hval : Value.okWide Try.prog w r b0 35 v) (h : DataW.Trod enc Try.prog w base sp held 35 v d ps) : ∃ (ao : Option Addr) (len cap : Nat) (E : Nat → Opv), v = .slice ao len cap ∧ IsOps w ao len E := by
  rcases open_rows Try.underlying35 (show Try.prog.cellsOf 41 = 5 by kernel_rfl) (by omega) hval h with rfl | ⟨b, off, s, len, cap, CS, rfl, hl, hm, hs, hel⟩
  · exact ⟨none, 0, 0, fun _ => ⟨0, 0, 0, 0, 0⟩, rfl, fun i hi => by omega⟩
  · have hall : ∀ i, i < len → ∃ o : Opv, CS i = [Value.int .i64 o.kind, Value.int .i64 o.at_, Value.int .i64 o.x, Value.int .i64 o.h1, Value.int .i64 o.h2] := by
      intro i hi
      obtain ⟨g1, g2, n, D, g3⟩ := hel i hi
      exact read_op g3
    obtain ⟨E, hE⟩ := Go.Deep.choose_lt hall
    refine ⟨_, len, cap, E, rfl, fun i hi => ?_⟩
    obtain rfl := hs (by omega)
    obtain ⟨g1, g2, -⟩ := hel i hi
    rw [hE i hi] at g2
    refine ⟨b, off, rfl, ?_, ?_, ?_, ?_, ?_⟩
    · have := g2 0 (by omega); simpa using this
    · have := g2 1 (by omega); simpa [Nat.add_assoc] using this
    · have := g2 2 (by omega); simpa [Nat.add_assoc] using this
    · have := g2 3 (by omega); simpa [Nat.add_assoc] using this
    · have := g2 4 (by omega); simpa [Nat.add_assoc] using this
end

theorem slabPlays_walk (w : World) (ao : Option Addr) (len cap : Nat) (E : Nat → Opv) (hE : IsOps w ao len E) :
    Calls Try.prog 4 #[.slice ao len cap] w fun e w' => e = .returned (.bool true) ∧ Below w.heap.size w w' :=
  (plays_yes w ao len cap E hE).mono fun _ _ h => ⟨h.1, h.2.below (Nat.le_refl _) (fun _ _ h => h)⟩
end Go.Proofs.Ytnhcejbgkhhijaa
