/- PackBack: the walk at every input. -/
import Derived.Test.YtgebjmcdebdbmaaBackW
import Derived.Test.YtgebjmcdebdbmaaReadsA
namespace Go.Proofs.Ytgebjmcdebdbmaa
open Go.RowKit Go.Pairs
theorem packBack_walk (w : World) (pa : Option Addr) (pc : Nat) (ps : List (Int × Int × Int)) (hp : PT w pa ps) (qa : Option Addr) (qc : Nat) (qs : List (Int × Int × Int)) (hq : PT w qa qs) (n : Int) (hn : (Lit.int .u64 n).wf = true) (so : Option Addr) (cap : Nat) (bs : List Nat) (h : BS w so bs) (_hcap : bs.length ≤ cap) :
    Calls Try.prog 6 #[.slice pa ps.length pc, .slice qa qs.length qc, .int .u64 n, .slice so bs.length cap] w fun e w' => e = .returned (.bool true) ∧ Below w.heap.size w w' := by
  have hz : 0 ≤ n ∧ n ≤ 18446744073709551615 := by simpa [Lit.wf, IntKind.min, IntKind.max, IntKind.signed, IntKind.bits] using hn
  obtain ⟨m, rfl⟩ := Int.eq_ofNat_of_zero_le hz.1
  exact (back_yes w pa qa so pc qc cap ps qs m bs (by omega) hp hq h).mono fun _ _ hh => ⟨hh.1, hh.2.below (Nat.le_refl _) (fun _ _ h => h)⟩
end Go.Proofs.Ytgebjmcdebdbmaa
