/- PackWrites: the walk. -/
import Derived.Test.YtgebjmcdebdbmaaRefWrite
import Derived.Test.YtgebjmcdebdbmaaAwake
namespace Go.Proofs.Ytgebjmcdebdbmaa
open Go.RowKit Go.Pairs

set_option maxRecDepth 100000 in
set_option maxHeartbeats 4000000 in
theorem writes_yes (w : World) (so : Option Addr) (cap : Nat) (ps : List (Int × Int × Int)) (h : PT w so ps) :
    Calls Try.prog 4 #[.slice so ps.length cap] w fun e w' => e = .returned (.bool true) ∧ Keeps (fun _ => False) w w' := by
  have HB := hidp h
  have C1 := hidp (write_walk w so cap ps h)
  clear h
  go_enter Try.func4, Try.ntmps4
  go_wp2_with fail
  refine C1.out.mono ?_
  rintro e W1 ⟨⟨oa, oc, rfl, b1, l1, -⟩, K1⟩
  have C2 := hidp (refwrite_walk W1 so cap ps (HB.out.keep K1))
  have H1 := hidp (And.intro b1 K1)
  clear b1 K1 C1
  go_wp2_with fail
  refine C2.out.mono ?_
  rintro e W2 ⟨⟨ra, rc, rfl, b2, -, -⟩, K2⟩
  have CS := hidp (same_walk W2 oa ra oc rc (writeV ps) (writeV ps) (H1.out.1.keep K2) b2)
  have HK := hidp (H1.out.2.trans K2)
  obtain ⟨un, hun⟩ : ∃ un, un = writeV ps := ⟨_, rfl⟩
  rw [← hun] at CS ⊢
  clear b2 K2 C2 H1 l1 hun
  go_wp2_with fail
  refine CS.out.mono ?_
  rintro e W6 ⟨rfl, rfl⟩
  have e1 : decide True = true := rfl
  try rw [e1]
  clear e1 CS
  go_wp2_with fail
  refine (awake_any W6).mono ?_
  rintro e W9 ⟨rfl, K9⟩
  have HF := hidp (HK.out.trans K9)
  clear K9
  go_wp2_with fail
  go_ret
  exact ⟨rfl, HF.out⟩
end Go.Proofs.Ytgebjmcdebdbmaa
