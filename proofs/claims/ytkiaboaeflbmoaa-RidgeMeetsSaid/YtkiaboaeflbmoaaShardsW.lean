/- The walk of RidgeShards. -/
import Derived.Test.YtkiaboaeflbmoaaShard
import Derived.Test.YtkiaboaeflbmoaaOpen
namespace Go.Proofs.Ytkiaboaeflbmoaa
open Go.RowKit Go.Pairs

theorem below_of {w w' : World} (h : Keeps (fun _ => False) w w') : Below w.heap.size w w' := h.below (Nat.le_refl _) (by simp)

theorem box2 (w : World) (x y : Int) (t : TypeId) : (w.alloc (.cells #[.int .i64 x, .int .i64 y] t)).cell? ⟨w.heap.size, 0, none⟩ = some (.int .i64 x) ∧ (w.alloc (.cells #[.int .i64 x, .int .i64 y] t)).cell? ⟨w.heap.size, 1, none⟩ = some (.int .i64 y) := by
  constructor <;> simp

theorem ridgeShards_walk (w : World) (x y : Int) (_wx : (Lit.int .i64 x).wf = true) (_wy : (Lit.int .i64 y).wf = true) (n : Int) (wn : (Lit.int .i64 n).wf = true) :
    Calls Try.prog 3 #[.agg #[.int .i64 x, .int .i64 y], .int .i64 n] w fun e w' => e = .returned (.bool true) ∧ Below w.heap.size w w' := by
  have hb := bounds_i64 wn
  have K0 : Keeps (fun _ => False) w (w.alloc (.cells #[.int .i64 x, .int .i64 y] 23)) := (Keeps.refl _ _).alloc _
  obtain ⟨e0, e1⟩ := box2 w x y 23
  by_cases h : 1 ≤ n
  · obtain ⟨hk0, hk1⟩ := shK_bd x y n h
    have hc : (shK x y n == shK x y n) = true := by simp
    generalize hK : shK x y n = K at *
    have HK := hidp hK
    clear hK
    go_enter Try.func3, Try.ntmps3
    go_wp2_with fail
    refine (shard7 x y n h (by omega) _).mono ?_
    rintro e w1 ⟨rfl, K1⟩
    rw [HK.out]
    have d0 := K1.cell e0 (by simp)
    have d1 := K1.cell e1 (by simp)
    go_wp2_with fail
    refine (shard8 x y n h (by omega) _).mono ?_
    rintro e w2 ⟨rfl, K2⟩
    rw [HK.out]
    have KK := K0.trans (K1.trans K2)
    clear e0 e1 d0 d1 K0 K1 K2
    go_wp2_with (go_at_call 9; refine (awake_any _).mono ?_; rintro e w3 ⟨rfl, K3⟩)
    go_ret
    exact ⟨rfl, below_of (KK.trans K3)⟩
  · go_enter Try.func3, Try.ntmps3
    go_wp2_with fail
    refine (shardno7 x y n (by omega) _).mono ?_
    rintro e w1 ⟨rfl, K1⟩
    have d0 := K1.cell e0 (by simp)
    have d1 := K1.cell e1 (by simp)
    go_wp2_with fail
    refine (shardno8 x y n (by omega) _).mono ?_
    rintro e w2 ⟨rfl, K2⟩
    have KK := K0.trans (K1.trans K2)
    clear e0 e1 d0 d1 K0 K1 K2
    go_wp2_with (go_at_call 9; refine (awake_any _).mono ?_; rintro e w3 ⟨rfl, K3⟩)
    go_ret
    exact ⟨rfl, below_of (KK.trans K3)⟩
end Go.Proofs.Ytkiaboaeflbmoaa
