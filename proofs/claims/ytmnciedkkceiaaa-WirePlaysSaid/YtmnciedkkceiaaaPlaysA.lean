/- WirePlays: the argument opened; the walk at every input. -/
import Derived.Test.YtmnciedkkceiaaaPlay6
import Derived.Test.YtmnciedkkceiaaaOpen
import Derived.ChangeArms
namespace Go.Proofs.Ytmnciedkkceiaaa
open Go.ChangeShapes Go.WideShapes Go.ChangeAt Go.RowKit Go.Pairs
section
variable {H : Type} {enc : TypeId × Value → H} {w : World} {base : Nat} {sp : Nat → Bool} {held : Bool} {r : Reach} {b0 : Nat}

theorem read_opw {fuel : Nat} {cs : List Value} {x : DataW H × List MemPlace} (h : DataW.trod enc Try.prog w base sp held fuel 46 cs = some x) : ∃ o : Opw, cs = [Value.int .i64 o.kind, Value.int .i64 o.at_, Value.int .i64 o.x] := by
  obtain ⟨xs, n, _, rfl, hl, hlen, hf⟩ := DataW.trod_struct Try.underlying46 h
  rw [show Try.prog.cellsOf 46 = 3 by kernel_rfl] at hl
  match xs, hlen, cs, hl with
  | [y0, y1, y2], _, [c0, c1, c2], _ =>
    have hc3 : Try.prog.cellsOf 3 = 1 := by kernel_rfl
    have h0 : DataW.trod enc Try.prog w base sp held n 3 [c0] = some y0 := by simpa [hc3] using hf 0 _ rfl
    have h1 : DataW.trod enc Try.prog w base sp held n 3 [c1] = some y1 := by simpa [hc3] using hf 1 _ rfl
    have h2 : DataW.trod enc Try.prog w base sp held n 3 [c2] = some y2 := by simpa [hc3] using hf 2 _ rfl
    obtain ⟨a, e0, -⟩ := DataW.trod_int Try.underlying3 h0
    obtain ⟨b, e1, -⟩ := DataW.trod_int Try.underlying3 h1
    obtain ⟨c, e2, -⟩ := DataW.trod_int Try.underlying3 h2
    simp at e0 e1 e2
    exact ⟨⟨a, b, c⟩, by rw [e0, e1, e2]⟩

instance : Inhabited Opw := ⟨⟨0, 0, 0⟩⟩

theorem open_opws {v : Value} {d : DataW H} {ps : List MemPlace} (hval : Value.okWide Try.prog w r b0 42 v) (h : DataW.Trod enc Try.prog w base sp held 42 v d ps) : ∃ (ao : Option Addr) (len cap : Nat) (E : Nat → Opw), v = .slice ao len cap ∧ IsOpw w ao len E := by
  rcases open_rows Try.underlying42 (show Try.prog.cellsOf 46 = 3 by kernel_rfl) (by omega) hval h with rfl | ⟨b, off, s, len, cap, CS, rfl, hl, hm, hs, hel⟩
  · exact ⟨none, 0, 0, fun _ => ⟨0, 0, 0⟩, rfl, fun i hi => by omega⟩
  · have hall : ∀ i, i < len → ∃ o : Opw, CS i = [Value.int .i64 o.kind, Value.int .i64 o.at_, Value.int .i64 o.x] := by
      intro i hi
      obtain ⟨g1, g2, n, D, g3⟩ := hel i hi
      exact read_opw g3
    obtain ⟨E, hE⟩ := Go.Deep.choose_lt hall
    refine ⟨_, len, cap, E, rfl, fun i hi => ?_⟩
    obtain rfl := hs (by omega)
    obtain ⟨g1, g2, -⟩ := hel i hi
    rw [hE i hi] at g2
    refine ⟨b, off, rfl, ?_, ?_, ?_⟩
    · have := g2 0 (by omega); simpa using this
    · have := g2 1 (by omega); simpa [Nat.add_assoc] using this
    · have := g2 2 (by omega); simpa [Nat.add_assoc] using this
end

theorem rooms_of {w : World} {v : Value} {len : Nat} {Z : Nat → Int} (h : IsInts .i64 w v len Z) : ∃ ro rc, v = .slice ro len rc ∧ IsRooms w ro len Z := by
  rcases h with ⟨rfl, rfl⟩ | ⟨b, off, s, cap, rfl, h1, h2, h3, h4⟩
  · exact ⟨none, 0, rfl, fun i hi => by omega⟩
  · refine ⟨_, cap, rfl, fun i hi => ?_⟩
    obtain rfl := h3 (by omega)
    exact ⟨b, off, rfl, (h4 i hi).1⟩

theorem wirePlays_walk (w : World) (V : Value) (rl : Nat) (Z : Nat → Int) (hV : IsInts .i64 w V rl Z) (ao : Option Addr) (len cap : Nat) (E : Nat → Opw) (hE : IsOpw w ao len E) :
    Calls Try.prog 5 #[V, .slice ao len cap] w fun e w' => e = .returned (.bool true) ∧ Below w.heap.size w w' := by
  obtain ⟨ro, rc, rfl, hZ⟩ := rooms_of hV
  exact (plays_yes w ro ao rl rc len cap Z E hZ hE).mono fun _ _ h => ⟨h.1, h.2.below (Nat.le_refl _) (fun _ _ h => h)⟩
end Go.Proofs.Ytmnciedkkceiaaa
