/- PackReads: the walk at every input. -/
import Derived.Test.YtgebjmcdebdbmaaReadsW
import Derived.Test.YtgebjmcdebdbmaaOpenP
namespace Go.Proofs.Ytgebjmcdebdbmaa
open Go.ChangeShapes Go.WideShapes Go.ChangeAt Go.RowKit Go.Pairs
section
variable {H : Type} {enc : TypeId × Value → H} {P : Program} {w : World} {base : Nat} {sp : Nat → Bool} {held : Bool} {r : Reach} {b0 : Nat}
theorem open_bytes2 {t e : TypeId} {v : Value} {d : DataW H} {ps : List MemPlace} (ht : P.underlying t = some (.slice e)) (he : P.underlying e = some (.int .u8)) (hc : P.cellsOf e = 1)
    (hval : Value.okWide P w r b0 t v) (h : DataW.Trod enc P w base sp held t v d ps) : ∃ (so : Option Addr) (cap : Nat) (bs : List Nat), v = .slice so bs.length cap ∧ BS w so bs ∧ bs.length ≤ cap := by
  obtain ⟨len, Z, hZ⟩ := open_intsf ht he hc hval h
  rcases hZ with ⟨rfl, rfl⟩ | ⟨b, off, s, cap, rfl, hl, hm, hs, hel⟩
  · exact ⟨none, 0, [], rfl, ⟨fun i hi => by simp at hi, by simp, by simp⟩, by simp⟩
  · refine ⟨some ⟨b, off, s⟩, cap, (List.range len).map fun i => (Z i).toNat, by simp, ⟨fun i hi => ?_, fun x hx => ?_, ?_⟩, by simpa using hl⟩
    · have hi' : i < len := by simpa using hi
      obtain ⟨h1, h2⟩ := hel i hi'
      obtain rfl := hs (by omega)
      refine ⟨b, off, rfl, ?_⟩
      rw [h1]
      have hz : 0 ≤ Z i ∧ Z i ≤ 255 := by simpa [Lit.wf, IntKind.min, IntKind.max, IntKind.signed, IntKind.bits] using h2
      simp
      omega
    · obtain ⟨i, hi, rfl⟩ := List.mem_map.1 hx
      have hi' : i < len := by simpa using hi
      obtain ⟨h1, h2⟩ := hel i hi'
      have hz : 0 ≤ Z i ∧ Z i ≤ 255 := by simpa [Lit.wf, IntKind.min, IntKind.max, IntKind.signed, IntKind.bits] using h2
      omega
    · simp; unfold maxLen at hm; omega
end

theorem packReads_walk (w : World) (so : Option Addr) (cap : Nat) (bs : List Nat) (h : BS w so bs) (hcap : bs.length ≤ cap) (pa : Option Addr) (pc : Nat) (ps : List (Int × Int × Int)) (hp : PT w pa ps) (at_ : Int) (_ha : (Lit.int .i64 at_).wf = true) (x : Int) (hx : (Lit.int .u8 x).wf = true) (cut : Int) (_hc : (Lit.int .i64 cut).wf = true) :
    Calls Try.prog 5 #[.slice so bs.length cap, .slice pa ps.length pc, .int .i64 at_, .int .u8 x, .int .i64 cut] w fun e w' => e = .returned (.bool true) ∧ Below w.heap.size w w' := by
  have hz : 0 ≤ x ∧ x ≤ 255 := by simpa [Lit.wf, IntKind.min, IntKind.max, IntKind.signed, IntKind.bits] using hx
  obtain ⟨m, rfl⟩ := Int.eq_ofNat_of_zero_le hz.1
  exact (packreads_yes w so pa cap pc bs ps at_ cut m (by omega) h hcap hp).mono fun _ _ hh => ⟨hh.1, hh.2.below (Nat.le_refl _) (fun _ _ h => h)⟩
end Go.Proofs.Ytgebjmcdebdbmaa
