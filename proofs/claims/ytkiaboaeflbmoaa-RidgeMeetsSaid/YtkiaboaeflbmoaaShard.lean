/- ridge.Shard, the reference's Shard, and what the document fixes (awake). -/
import Derived.Test.YtkiaboaeflbmoaaTabE
namespace Go.Proofs.Ytkiaboaeflbmoaa
open Go.RowKit Go.Pairs

def shR (x y n : Int) : Int := (wrap64 (wrap64 (31 * x) + y)).tmod n
def shK (x y n : Int) : Int := if shR x y n < 0 then shR x y n + n else shR x y n

theorem shR_bd (x y n : Int) (h : 1 ≤ n) : -n < shR x y n ∧ shR x y n < n := by
  unfold shR
  generalize wrap64 (wrap64 (31 * x) + y) = u
  rcases Int.le_total 0 u with h1 | h1
  · rw [Int.tmod_eq_emod_of_nonneg h1]
    have := Int.emod_nonneg u (show n ≠ 0 by omega); have := Int.emod_lt_of_pos u (show 0 < n by omega); omega
  · obtain ⟨v, rfl⟩ : ∃ v, u = -v := ⟨-u, by omega⟩
    rw [Int.neg_tmod, Int.tmod_eq_emod_of_nonneg (by omega)]
    have := Int.emod_nonneg v (show n ≠ 0 by omega); have := Int.emod_lt_of_pos v (show 0 < n by omega); omega

theorem shK_bd (x y n : Int) (h : 1 ≤ n) : 0 ≤ shK x y n ∧ shK x y n < n := by
  have := shR_bd x y n h
  unfold shK; split <;> omega

theorem shK_neg {x y n : Int} (h : shR x y n < 0) : shR x y n + n = shK x y n := by unfold shK; rw [if_pos h]
theorem shK_pos {x y n : Int} (h : 0 ≤ shR x y n) : shR x y n = shK x y n := by unfold shK; rw [if_neg (by omega)]

theorem ret_ib {a b : Int} (h : a = b) (c : Bool) : Ending.returned (.tuple #[.int .i64 a, .bool c]) = .returned (.tuple #[.int .i64 b, .bool c]) := by rw [h]

theorem shard7 (x y n : Int) (h : 1 ≤ n) (hn : n ≤ 9223372036854775807) (w : World) :
    Calls Try.prog 7 #[.agg #[.int .i64 x, .int .i64 y], .int .i64 n] w fun e w' => e = .returned (.tuple #[.int .i64 (shK x y n), .bool true]) ∧ Keeps (fun _ => False) w w' := by
  obtain ⟨hb1, hb2⟩ := shR_bd x y n h
  unfold shR at hb1 hb2
  go_enter Try.func7, Try.ntmps7
  go_wp2
  · go_ret2
    exact ⟨ret_ib (shK_neg (by assumption)) _, (Keeps.refl _ _).alloc _⟩
  · go_ret2
    exact ⟨ret_ib (shK_pos (by assumption)) _, (Keeps.refl _ _).alloc _⟩

theorem shardno7 (x y n : Int) (h : n < 1) (w : World) :
    Calls Try.prog 7 #[.agg #[.int .i64 x, .int .i64 y], .int .i64 n] w fun e w' => e = .returned (.tuple #[.int .i64 0, .bool false]) ∧ Keeps (fun _ => False) w w' := by
  go_enter Try.func7, Try.ntmps7
  go_wp2
  go_ret2
  exact ⟨rfl, (Keeps.refl _ _).alloc _⟩

theorem shard8 (x y n : Int) (h : 1 ≤ n) (hn : n ≤ 9223372036854775807) (w : World) :
    Calls Try.prog 8 #[.agg #[.int .i64 x, .int .i64 y], .int .i64 n] w fun e w' => e = .returned (.tuple #[.int .i64 (shK x y n), .bool true]) ∧ Keeps (fun _ => False) w w' := by
  obtain ⟨hb1, hb2⟩ := shR_bd x y n h
  unfold shR at hb1 hb2
  go_enter Try.func8, Try.ntmps8
  go_wp2
  · go_ret2
    exact ⟨ret_ib (shK_neg (by assumption)) _, (Keeps.refl _ _).alloc _⟩
  · go_ret2
    exact ⟨ret_ib (shK_pos (by assumption)) _, (Keeps.refl _ _).alloc _⟩

theorem shardno8 (x y n : Int) (h : n < 1) (w : World) :
    Calls Try.prog 8 #[.agg #[.int .i64 x, .int .i64 y], .int .i64 n] w fun e w' => e = .returned (.tuple #[.int .i64 0, .bool false]) ∧ Keeps (fun _ => False) w w' := by
  go_enter Try.func8, Try.ntmps8
  go_wp2
  go_ret2
  exact ⟨rfl, (Keeps.refl _ _).alloc _⟩

theorem sh124 : shK 1 2 4 = 1 := by simp [shK, shR, wrap64]

theorem awake_any (w : World) : Calls Try.prog 9 #[] w fun e w' => e = .returned (.bool true) ∧ Keeps (fun _ => False) w w' := by
  go_enter Try.func9, Try.ntmps9
  go_wp2_with fail
  refine (new_s w).mono ?_
  rintro e w1 ⟨a, b, rfl, T, ha, hb, K1⟩
  have kA : ok_s (.string ⟨#[97]⟩) := ⟨_, rfl⟩
  have kB : ok_s (.string ⟨#[98]⟩) := ⟨_, rfl⟩
  go_wp2_with fail
  refine (meet_s T (by omega) kA _).mono ?_
  unfold Met
  rw [show pLook veq (.string ⟨#[97]⟩) [] = none from rfl]
  rintro e w2 ⟨rfl, T2, K2⟩
  go_wp2_with fail
  refine (meet_s T2 (by omega) kB _).mono ?_
  unfold Met
  rw [show pLook veq (.string ⟨#[98]⟩) ([] ++ [(.string ⟨#[97]⟩, .int .i64 1)]) = none from rfl]
  rintro e w3 ⟨rfl, T3, K3⟩
  go_wp2_with fail
  refine (meet_s T3 (by omega) kA _).mono ?_
  unfold Met
  rw [show pLook veq (.string ⟨#[97]⟩) ([] ++ [(.string ⟨#[97]⟩, .int .i64 1)] ++ [(.string ⟨#[98]⟩, .int .i64 2)]) = some (.int .i64 1) from rfl]
  rintro e w4 ⟨rfl, T4, K4⟩
  go_wp2_with fail
  refine (shard7 1 2 4 (by omega) (by omega) _).mono ?_
  rw [sh124]
  rintro e w5 ⟨rfl, K5⟩
  have T5 := T4.keep K5 (by simp) (by simp)
  have KF : Keeps (fun _ => False) w w5 := by
    refine (K1.then_ (K2.trans (K3.trans (K4.trans (K5.mono (fun _ _ h => h.elim))))) (fun i hi h => ?_))
    rcases h with h | h <;> omega
  clear K1 K2 K3 K4 K5 T T2 T3 T4
  go_wp2_with (first | (go_at_call 27; refine (len_s T5).mono ?_; rintro e w' ⟨rfl, rfl⟩) | (go_at_call 28; refine (met_s T5).mono ?_; rintro e w' ⟨rfl, rfl⟩))
  go_ret
  exact ⟨rfl, KF⟩
end Go.Proofs.Ytkiaboaeflbmoaa
