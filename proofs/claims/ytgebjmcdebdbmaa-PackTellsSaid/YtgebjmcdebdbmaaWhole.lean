/- whole and zag: the walks. -/
import Derived.Test.YtgebjmcdebdbmaaReadS
namespace Go.Proofs.Ytgebjmcdebdbmaa
open Go.RowKit Go.Pairs
theorem and1_64 (u : Nat) (hu : u < 18446744073709551616) : bits .and .u64 (u : Int) 1 = ((u % 2 : Nat) : Int) := by
  rw [show (1 : Int) = ((1 : Nat) : Int) from rfl, u64_and_nat u 1 hu (by omega)]
  congr 1
  rw [Nat.and_one_is_mod]

set_option maxRecDepth 100000 in
theorem whole_walk (w : World) (u : Nat) (hu : u ≤ 1099511627776) : Calls Try.prog 31 #[.int .u64 u] w fun e w' => e = .returned (.int .i64 (whole u)) ∧ w' = w := by
  skip
  by_cases hn : u % 2 = 1
  · have HZ := hidp (show whole u = -((u / 2 : Nat) : Int) - 1 by unfold whole; rw [if_pos hn])
    have w1 : IntKind.i64.wrap ((u : Int) / 2) = (u : Int) / 2 := IntWalk.i64_in _ (by omega)
    have w2 : IntKind.i64.wrap (-((u : Int) / 2)) = -((u : Int) / 2) := IntWalk.i64_in _ (by omega)
    have w3 : IntKind.i64.wrap (-((u : Int) / 2) - 1) = -((u : Int) / 2) - 1 := IntWalk.i64_in _ (by omega)
    have t1 : ((u : Int) % 2 = 1) := by omega
    have t2 : (bits .and .u64 (u : Int) 1 == 1) = true := by rw [and1_64 u (by omega), hn]; rfl
    go_enter Try.func31, Try.ntmps31
    go_wp2
    go_ret
    refine ⟨?_, rfl⟩
    rw [HZ.out]
    simp
  · have HZ := hidp (show whole u = ((u / 2 : Nat) : Int) by unfold whole; rw [if_neg hn])
    have w1 : IntKind.i64.wrap ((u : Int) / 2) = (u : Int) / 2 := IntWalk.i64_in _ (by omega)
    have t1 : ((u : Int) % 2 = 0) := by omega
    have t2 : (bits .and .u64 (u : Int) 1 == 1) = false := by rw [and1_64 u (by omega), show u % 2 = 0 by omega]; rfl
    go_enter Try.func31, Try.ntmps31
    go_wp2
    go_ret
    refine ⟨?_, rfl⟩
    rw [HZ.out]
    simp

set_option maxRecDepth 100000 in
theorem zag_walk (w : World) (u : Nat) (hu : u ≤ 1099511627776) : Calls Try.prog 30 #[.int .u64 u] w fun e w' => e = .returned (.int .i64 (whole u)) ∧ w' = w := by
  skip
  by_cases hn : u % 2 = 1
  · have HZ := hidp (show whole u = -((u / 2 : Nat) : Int) - 1 by unfold whole; rw [if_pos hn])
    have w1 : IntKind.i64.wrap ((u : Int) / 2) = (u : Int) / 2 := IntWalk.i64_in _ (by omega)
    have w2 : IntKind.i64.wrap (-((u : Int) / 2)) = -((u : Int) / 2) := IntWalk.i64_in _ (by omega)
    have w3 : IntKind.i64.wrap (-((u : Int) / 2) - 1) = -((u : Int) / 2) - 1 := IntWalk.i64_in _ (by omega)
    have t1 : ((u : Int) % 2 = 1) := by omega
    have t2 : (bits .and .u64 (u : Int) 1 == 1) = true := by rw [and1_64 u (by omega), hn]; rfl
    go_enter Try.func30, Try.ntmps30
    go_wp2
    go_ret
    refine ⟨?_, rfl⟩
    rw [HZ.out]
    simp
  · have HZ := hidp (show whole u = ((u / 2 : Nat) : Int) by unfold whole; rw [if_neg hn])
    have w1 : IntKind.i64.wrap ((u : Int) / 2) = (u : Int) / 2 := IntWalk.i64_in _ (by omega)
    have t1 : ((u : Int) % 2 = 0) := by omega
    have t2 : (bits .and .u64 (u : Int) 1 == 1) = false := by rw [and1_64 u (by omega), show u % 2 = 0 by omega]; rfl
    go_enter Try.func30, Try.ntmps30
    go_wp2
    go_ret
    refine ⟨?_, rfl⟩
    rw [HZ.out]
    simp
end Go.Proofs.Ytgebjmcdebdbmaa
