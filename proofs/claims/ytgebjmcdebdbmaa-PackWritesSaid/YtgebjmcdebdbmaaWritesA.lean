/- PackWrites: the walk at every input. -/
import Derived.Test.YtgebjmcdebdbmaaWritesW
import Derived.Test.YtgebjmcdebdbmaaOpenP
namespace Go.Proofs.Ytgebjmcdebdbmaa
open Go.RowKit Go.Pairs
theorem packWrites_walk (w : World) (so : Option Addr) (cap : Nat) (ps : List (Int × Int × Int)) (h : PT w so ps) :
    Calls Try.prog 4 #[.slice so ps.length cap] w fun e w' => e = .returned (.bool true) ∧ Below w.heap.size w w' :=
  (writes_yes w so cap ps h).mono fun _ _ hh => ⟨hh.1, hh.2.below (Nat.le_refl _) (fun _ _ h => h)⟩
end Go.Proofs.Ytgebjmcdebdbmaa
