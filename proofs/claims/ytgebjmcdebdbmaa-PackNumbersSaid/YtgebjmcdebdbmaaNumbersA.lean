/- PackNumbers: the arguments opened. -/
import Derived.Test.YtgebjmcdebdbmaaNumbersW
import Derived.Test.YtgebjmcdebdbmaaOpen
import Derived.ChangeArms
namespace Go.Proofs.Ytgebjmcdebdbmaa
open Go.ChangeShapes Go.WideShapes Go.ChangeAt Go.RowKit Go.Pairs
section
variable {H : Type} {enc : TypeId × Value → H} {P : Program} {w : World} {base : Nat} {sp : Nat → Bool} {held : Bool} {r : Reach} {b0 : Nat}

theorem open_bytes {t e : TypeId} {v : Value} {d : DataW H} {ps : List MemPlace} (ht : P.underlying t = some (.slice e)) (he : P.underlying e = some (.int .u8)) (hc : P.cellsOf e = 1)
    (hval : Value.okWide P w r b0 t v) (h : DataW.Trod enc P w base sp held t v d ps) : ∃ (so : Option Addr) (cap : Nat) (bs : List Nat), v = .slice so bs.length cap ∧ BS w so bs := by
  obtain ⟨len, Z, hZ⟩ := open_intsf ht he hc hval h
  rcases hZ with ⟨rfl, rfl⟩ | ⟨b, off, s, cap, rfl, hl, hm, hs, hel⟩
  · exact ⟨none, 0, [], rfl, fun i hi => by simp at hi, by simp, by simp⟩
  · refine ⟨some ⟨b, off, s⟩, cap, (List.range len).map fun i => (Z i).toNat, by simp, fun i hi => ?_, fun x hx => ?_, ?_⟩
    · have hi' : i < len := by simpa using hi
      obtain ⟨h1, h2⟩ := hel i hi'
      obtain rfl := hs (by omega)
      refine ⟨b, off, rfl, ?_⟩
      rw [h1]
      have hz : 0 ≤ Z i ∧ Z i ≤ 255 := by simpa [Lit.wf, IntKind.min, IntKind.max, IntKind.signed, IntKind.bits] using h2
      simp
      omega
    · obtain ⟨i, hi, rfl⟩ := List.mem_map.1 hx
      have hi' : i < len := by simpa using hi
      obtain ⟨h1, h2⟩ := hel i hi'
      have hz : 0 ≤ Z i ∧ Z i ≤ 255 := by simpa [Lit.wf, IntKind.min, IntKind.max, IntKind.signed, IntKind.bits] using h2
      omega
    · simp; unfold maxLen at hm; omega
end

theorem packNumbers_walk (w : World) (n : Int) (hn : (Lit.int .u64 n).wf = true) (so : Option Addr) (cap : Nat) (bs : List Nat) (h : BS w so bs) :
    Calls Try.prog 3 #[.int .u64 n, .slice so bs.length cap] w fun e w' => e = .returned (.bool true) ∧ Below w.heap.size w w' := by
  have hz : 0 ≤ n ∧ n ≤ 18446744073709551615 := by simpa [Lit.wf, IntKind.min, IntKind.max, IntKind.signed, IntKind.bits] using hn
  obtain ⟨m, rfl⟩ := Int.eq_ofNat_of_zero_le hz.1
  exact (numbers_yes w m (by omega) so cap bs h).mono fun _ _ hh => ⟨hh.1, hh.2.below (Nat.le_refl _) (fun _ _ h => h)⟩
end Go.Proofs.Ytgebjmcdebdbmaa
