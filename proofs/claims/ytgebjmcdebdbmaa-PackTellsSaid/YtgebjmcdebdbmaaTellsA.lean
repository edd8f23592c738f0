/- PackTells: the walk at every input. -/
import Derived.Test.YtgebjmcdebdbmaaTellsW
import Derived.Test.YtgebjmcdebdbmaaReadsA
namespace Go.Proofs.Ytgebjmcdebdbmaa
open Go.RowKit Go.Pairs
theorem packTells_walk (w : World) (pa : Option Addr) (pc : Nat) (ps : List (Int × Int × Int)) (hp : PT w pa ps) (at_ : Int) (_ha : (Lit.int .i64 at_).wf = true) (p : Int) (hn : (Lit.int .u32 p).wf = true) :
    Calls Try.prog 7 #[.slice pa ps.length pc, .int .i64 at_, .int .u32 p] w fun e w' => e = .returned (.bool true) ∧ Below w.heap.size w w' := by
  have hz : 0 ≤ p ∧ p ≤ 4294967295 := by simpa [Lit.wf, IntKind.min, IntKind.max, IntKind.signed, IntKind.bits] using hn
  obtain ⟨m, rfl⟩ := Int.eq_ofNat_of_zero_le hz.1
  exact (tells_yes w pa pc ps at_ m (by omega) hp).mono fun _ _ hh => ⟨hh.1, hh.2.below (Nat.le_refl _) (fun _ _ h => h)⟩
end Go.Proofs.Ytgebjmcdebdbmaa
