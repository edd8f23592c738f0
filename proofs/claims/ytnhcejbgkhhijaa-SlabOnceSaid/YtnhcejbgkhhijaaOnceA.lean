/- The walk of SlabOnce, every input. -/
import Derived.Test.YtnhcejbgkhhijaaOnceW
import Derived.ChangeArms
namespace Go.Pairs
open Go.ChangeShapes Go.WideShapes Go.ChangeAt Go.RowKit
section
variable {H : Type} {enc : TypeId × Value → H} {P : Program} {w : World} {base : Nat} {sp : Nat → Bool} {held : Bool} {r : Reach} {b0 : Nat}
/-- a slice of bools. -/
def IsBools (w : World) (v : Value) (len : Nat) (Z : Nat → Bool) : Prop :=
  (v = .slice none 0 0 ∧ len = 0) ∨ ∃ b off s cap, v = .slice (some ⟨b, off, s⟩) len cap ∧ len ≤ cap ∧ cap ≤ maxLen ∧ (0 < len → s = none) ∧
    ∀ i, i < len → w.cell? ⟨b, off + i, none⟩ = some (.bool (Z i))

theorem open_bools {t e : TypeId} {v : Value} {d : DataW H} {ps : List MemPlace} (ht : P.underlying t = some (.slice e)) (he : P.underlying e = some .bool) (hc : P.cellsOf e = 1)
    (hval : Value.okWide P w r b0 t v) (h : DataW.Trod enc P w base sp held t v d ps) : ∃ len Z, IsBools w v len Z := by
  rcases open_rows ht hc (by omega) hval h with rfl | ⟨b, off, s, len, cap, CS, rfl, hl, hm, hs, hel⟩
  · exact ⟨0, fun _ => false, .inl ⟨rfl, rfl⟩⟩
  · have hall : ∀ i, i < len → ∃ n : Bool, w.cell? ⟨b, off + i, none⟩ = some (.bool n) := by
      intro i hi
      obtain ⟨g1, g2, n, D, g3⟩ := hel i hi
      obtain ⟨x, hx, -⟩ := DataW.trod_bool he g3
      have h0 := g2 0 (by omega)
      rw [hx] at h0
      exact ⟨x, by simpa using h0⟩
    obtain ⟨Z, hZ⟩ := Go.Deep.choose_lt hall
    exact ⟨len, Z, .inr ⟨b, off, s, cap, rfl, hl, hm, hs, hZ⟩⟩
end
end Go.Pairs
namespace Go.Proofs.Ytnhcejbgkhhijaa
open Go.RowKit Go.Pairs

theorem below_of {w w' : World} (h : Keeps (fun _ => False) w w') : Below w.heap.size w w' := h.below (Nat.le_refl _) (fun _ _ h => h)

theorem slabOnce_walk (w : World) (V : Value) (len : Nat) (Z : Nat → Bool) (hV : IsBools w V len Z) :
    Calls Try.prog 3 #[V] w fun e w' => e = .returned (.bool true) ∧ Below w.heap.size w w' := by
  rcases hV with ⟨rfl, rfl⟩ | ⟨b, off, s, cap, rfl, h1, h2, hs, hel⟩
  · exact (once_yes w none 0 0 Z (by simp) (by intro i hi; omega)).mono fun e w' h => ⟨h.1, below_of h.2⟩
  · refine (once_yes w _ len cap Z (by omega) ?_).mono fun e w' h => ⟨h.1, below_of h.2⟩
    intro i hi
    obtain rfl := hs (by omega)
    exact ⟨b, off, rfl, hel i hi⟩
end Go.Proofs.Ytnhcejbgkhhijaa
