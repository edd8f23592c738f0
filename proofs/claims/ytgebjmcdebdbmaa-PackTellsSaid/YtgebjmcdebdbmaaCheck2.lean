/- The program's Check; part, zig, four. -/
import Derived.Test.YtgebjmcdebdbmaaCheck1
namespace Go.Proofs.Ytgebjmcdebdbmaa
open Go.RowKit Go.Pairs

/-- a whole number as one from 0 on. -/
def zig (n : Int) : Nat := if n < 0 then (-2 * n - 1).toNat else (2 * n).toNat

theorem run_ix0 (w : World) (x y z : Int) : (Instr.index 54 (.agg #[.int .i64 x, .int .i64 y, .int .i64 z]) (.int .i64 0)).run Try.prog w = .ok (.int .i64 x) w := by kernel_rfl
theorem run_ix1 (w : World) (x y z : Int) : (Instr.index 54 (.agg #[.int .i64 x, .int .i64 y, .int .i64 z]) (.int .i64 1)).run Try.prog w = .ok (.int .i64 y) w := by kernel_rfl
theorem run_ix2 (w : World) (x y z : Int) : (Instr.index 54 (.agg #[.int .i64 x, .int .i64 y, .int .i64 z]) (.int .i64 2)).run Try.prog w = .ok (.int .i64 z) w := by kernel_rfl

set_option maxRecDepth 100000 in
set_option maxHeartbeats 4000000 in
theorem check_walk (w : World) (so : Option Addr) (cap : Nat) (ps : List (Int × Int × Int)) (h : PT w so ps) :
    Calls Try.prog 21 #[.slice so ps.length cap] w fun e w' => (∃ i, e = .returned (.tuple #[.int .i64 (chk ps), .int .i64 i])) ∧ Keeps (fun _ => False) w w' := by
  have HB := hidp h
  have hl := h.2
  clear h
  go_enter Try.func21, Try.ntmps21
  by_cases hmany : 512 < ps.length
  · have t1 : decide (512 < ps.length) = true := by simpa using hmany
    have t1' : decide ((512 : Int) < ps.length) = true := by simp; omega
    have HC := hidp (chk_many hmany)
    go_wp2
    go_ret2
    exact ⟨⟨0, by rw [HC.out]; rfl⟩, Keeps.refl _ _⟩
  have t1 : decide (512 < ps.length) = false := by simpa using hmany
  have t1' : decide ((512 : Int) < ps.length) = false := by simp; omega
  go_wp2
  go_loopw [13] (fun i wr => ∃ k : Nat, k ≤ ps.length ∧ i = .int .i64 k ∧ (ps.take k).all okp = true ∧ Keeps (fun _ => False) w wr) (fun i _ => ps.length - (intOf i).toNat)
  case atStart => exact ⟨0, Nat.zero_le _, rfl, rfl, Keeps.refl _ _⟩
  case round =>
    obtain ⟨k, hk, rfl, hall, hK⟩ := hrel
    have HK := hidp (And.intro hK hall)
    clear hK hall
    by_cases hlt : k < ps.length
    · obtain ⟨b, off, rfl, c0, c1, c2⟩ := (HB.out.keep HK.out.1).1 k hlt
      obtain ⟨x, hx⟩ : ∃ x, x = ps[k].1 := ⟨_, rfl⟩
      obtain ⟨y, hy⟩ : ∃ y, y = ps[k].2.1 := ⟨_, rfl⟩
      obtain ⟨z, hz⟩ : ∃ z, z = ps[k].2.2 := ⟨_, rfl⟩
      rw [← hx] at c0
      rw [← hy] at c1
      rw [← hz] at c2
      have hp : ps[k] = (x, y, z) := by rw [hx, hy, hz]
      have HP := hidp hp
      have t2 : decide (k < ps.length) = true := by simpa using hlt
      have t3 : ((k : Int) < ps.length) := by omega
      have hw : IntKind.i64.wrap ((k : Int) + 1) = k + 1 := IntWalk.i64_in _ (by omega)
      have hn := heap_alloc_new wr (.cells #[.int .i64 x, .int .i64 y, .int .i64 z] 53)
      have e0 := cells_at hn 0
      have e1 := cells_at hn 1
      have e2 := cells_at hn 2
      simp only [List.getElem?_toArray, List.getElem?_cons_zero, List.getElem?_cons_succ] at e0 e1 e2
      have HK2 := hidp ((HK.out.1).alloc (.cells #[.int .i64 x, .int .i64 y, .int .i64 z] 53))
      clear hx hy hz hp hn
      go_wp2
      go_loopw [25] (fun j wq => Keeps (fun _ => False) w wq ∧ ∃ m : Nat, m ≤ 3 ∧ j = .int .i64 m ∧ (1 ≤ m → okc x = true) ∧ (2 ≤ m → okc y = true) ∧ (3 ≤ m → okc z = true)) (fun j _ => 3 - (intOf j).toNat)
      case atStart => exact ⟨HK2.out, 0, by omega, rfl, by omega, by omega, by omega⟩
      case round =>
        obtain ⟨hKq, m, hm, rfl, hm1, hm2, hm3⟩ := hrel
        have HM := hidp (And.intro hKq (And.intro hm1 (And.intro hm2 hm3)))
        clear hKq hm1 hm2 hm3 HK2 e0 e1 e2
        rcases (show m = 0 ∨ m = 1 ∨ m = 2 ∨ m = 3 by omega) with rfl | rfl | rfl | rfl
        · by_cases hc : okc x = true
          ·
            have hix := run_ix0 wr x y z
            obtain ⟨h1, h2⟩ := okc_yes hc
            have u1 : decide (x < -1073741824) = false := by simp; omega
            have u2 : decide (1073741824 < x) = false := by simp; omega
            have HF := hidp (And.intro HM.out.1 (And.intro (show 1 ≤ 1 → okc x = true from fun _ => hc) (And.intro (show 2 ≤ 1 → okc y = true from by omega) (show 3 ≤ 1 → okc z = true from by omega))))
            clear hc h1 h2
            go_wp2
            exact ⟨⟨HF.out.1, 1, by omega, rfl, HF.out.2⟩, by simp [intOf]⟩
          ·
            have hc : okc x = false := by simpa using hc
            have hix := run_ix0 wr x y z
            have hbad : okp (x, y, z) = false := by
              show (okc x && okc y && okc z) = false
              rw [hc]; simp
            have HC := hidp (chk_bad hmany hlt (by rw [HP.out]; exact hbad))
            have hcc := okc_no hc
            have hsp : (decide (x < -1073741824) = true) ∨ (decide (x < -1073741824) = false ∧ decide (1073741824 < x) = true) := by
              rcases hcc with h | ⟨h, h'⟩
              · exact .inl (by simpa using h)
              · exact .inr ⟨by simpa using h, by simpa using h'⟩
            clear hbad hc hcc
            rcases hsp with u1 | ⟨u1, u2⟩
            all_goals
              go_wp2
              go_ret2
              exact ⟨⟨k, by rw [HC.out]; rfl⟩, HM.out.1⟩
        · by_cases hc : okc y = true
          ·
            have hix := run_ix1 wr x y z
            obtain ⟨h1, h2⟩ := okc_yes hc
            have u1 : decide (y < -1073741824) = false := by simp; omega
            have u2 : decide (1073741824 < y) = false := by simp; omega
            have HF := hidp (And.intro HM.out.1 (And.intro (show 1 ≤ 2 → okc x = true from fun _ => HM.out.2.1 (by omega)) (And.intro (show 2 ≤ 2 → okc y = true from fun _ => hc) (show 3 ≤ 2 → okc z = true from by omega))))
            clear hc h1 h2
            go_wp2
            exact ⟨⟨HF.out.1, 2, by omega, rfl, HF.out.2⟩, by simp [intOf]⟩
          ·
            have hc : okc y = false := by simpa using hc
            have hix := run_ix1 wr x y z
            have hbad : okp (x, y, z) = false := by
              show (okc x && okc y && okc z) = false
              rw [hc]; simp
            have HC := hidp (chk_bad hmany hlt (by rw [HP.out]; exact hbad))
            have hcc := okc_no hc
            have hsp : (decide (y < -1073741824) = true) ∨ (decide (y < -1073741824) = false ∧ decide (1073741824 < y) = true) := by
              rcases hcc with h | ⟨h, h'⟩
              · exact .inl (by simpa using h)
              · exact .inr ⟨by simpa using h, by simpa using h'⟩
            clear hbad hc hcc
            rcases hsp with u1 | ⟨u1, u2⟩
            all_goals
              go_wp2
              go_ret2
              exact ⟨⟨k, by rw [HC.out]; rfl⟩, HM.out.1⟩
        · by_cases hc : okc z = true
          ·
            have hix := run_ix2 wr x y z
            obtain ⟨h1, h2⟩ := okc_yes hc
            have u1 : decide (z < -1073741824) = false := by simp; omega
            have u2 : decide (1073741824 < z) = false := by simp; omega
            have HF := hidp (And.intro HM.out.1 (And.intro (show 1 ≤ 3 → okc x = true from fun _ => HM.out.2.1 (by omega)) (And.intro (show 2 ≤ 3 → okc y = true from fun _ => HM.out.2.2.1 (by omega)) (show 3 ≤ 3 → okc z = true from fun _ => hc))))
            clear hc h1 h2
            go_wp2
            exact ⟨⟨HF.out.1, 3, by omega, rfl, HF.out.2⟩, by simp [intOf]⟩
          ·
            have hc : okc z = false := by simpa using hc
            have hix := run_ix2 wr x y z
            have hbad : okp (x, y, z) = false := by
              show (okc x && okc y && okc z) = false
              rw [hc]; simp
            have HC := hidp (chk_bad hmany hlt (by rw [HP.out]; exact hbad))
            have hcc := okc_no hc
            have hsp : (decide (z < -1073741824) = true) ∨ (decide (z < -1073741824) = false ∧ decide (1073741824 < z) = true) := by
              rcases hcc with h | ⟨h, h'⟩
              · exact .inl (by simpa using h)
              · exact .inr ⟨by simpa using h, by simpa using h'⟩
            clear hbad hc hcc
            rcases hsp with u1 | ⟨u1, u2⟩
            all_goals
              go_wp2
              go_ret2
              exact ⟨⟨k, by rw [HC.out]; rfl⟩, HM.out.1⟩
        · have hok : okp (x, y, z) = true := by
            show (okc x && okc y && okc z) = true
            rw [HM.out.2.1 (by omega), HM.out.2.2.1 (by omega), HM.out.2.2.2 (by omega)]; rfl
          have HF := hidp (And.intro HM.out.1 (all_succ hlt HK.out.2 (by rw [HP.out]; exact hok)))
          clear hok
          go_wp2
          exact ⟨⟨k + 1, by omega, rfl, HF.out.2, HF.out.1⟩, by simp [intOf]; omega⟩
    · obtain rfl : k = ps.length := by omega
      have hall := HK.out.2
      rw [List.take_length] at hall
      have HC := hidp (chk_ok hmany hall)
      have t2 : decide (ps.length < ps.length) = false := by simp
      clear hall
      go_wp2
      go_ret2
      exact ⟨⟨0, by rw [HC.out]; rfl⟩, HK.out.1⟩

theorem part_walk (w : World) (n : Int) (h1 : -4611686018427387904 < n) (h2 : n < 4611686018427387904) : Calls Try.prog 22 #[.int .i64 n] w fun e w' => e = .returned (.int .u64 (zig n)) ∧ w' = w := by
  by_cases hn : n < 0
  · have t1 : decide (n < 0) = true := by simpa using hn
    have HZ := hidp (show ((zig n : Nat) : Int) = -2 * n - 1 by unfold zig; rw [if_pos hn]; exact Int.toNat_of_nonneg (by omega))
    have w1 : IntKind.i64.wrap (-2 * n) = -2 * n := IntWalk.i64_in _ (by omega)
    have w2 : IntKind.i64.wrap (-2 * n - 1) = -2 * n - 1 := IntWalk.i64_in _ (by omega)
    have w3 : IntKind.u64.wrap (-2 * n - 1) = -2 * n - 1 := by rw [IntKind.wrap_u64]; omega
    go_enter Try.func22, Try.ntmps22
    go_wp2
    go_ret
    refine ⟨?_, rfl⟩
    rw [HZ.out]
    rfl
  · have t1 : decide (n < 0) = false := by simpa using hn
    have HZ := hidp (show ((zig n : Nat) : Int) = 2 * n by unfold zig; rw [if_neg hn]; exact Int.toNat_of_nonneg (by omega))
    have w1 : IntKind.i64.wrap (2 * n) = 2 * n := IntWalk.i64_in _ (by omega)
    have w3 : IntKind.u64.wrap (2 * n) = 2 * n := by rw [IntKind.wrap_u64]; omega
    go_enter Try.func22, Try.ntmps22
    go_wp2
    go_ret
    refine ⟨?_, rfl⟩
    rw [HZ.out]
    rfl

theorem zig_walk (w : World) (n : Int) (h1 : -4611686018427387904 < n) (h2 : n < 4611686018427387904) : Calls Try.prog 25 #[.int .i64 n] w fun e w' => e = .returned (.int .u64 (zig n)) ∧ w' = w := by
  by_cases hn : n < 0
  · have t1 : decide (n < 0) = true := by simpa using hn
    have HZ := hidp (show ((zig n : Nat) : Int) = -2 * n - 1 by unfold zig; rw [if_pos hn]; exact Int.toNat_of_nonneg (by omega))
    have w1 : IntKind.i64.wrap (-2 * n) = -2 * n := IntWalk.i64_in _ (by omega)
    have w2 : IntKind.i64.wrap (-2 * n - 1) = -2 * n - 1 := IntWalk.i64_in _ (by omega)
    have w3 : IntKind.u64.wrap (-2 * n - 1) = -2 * n - 1 := by rw [IntKind.wrap_u64]; omega
    go_enter Try.func25, Try.ntmps25
    go_wp2
    go_ret
    refine ⟨?_, rfl⟩
    rw [HZ.out]
    rfl
  · have t1 : decide (n < 0) = false := by simpa using hn
    have HZ := hidp (show ((zig n : Nat) : Int) = 2 * n by unfold zig; rw [if_neg hn]; exact Int.toNat_of_nonneg (by omega))
    have w1 : IntKind.i64.wrap (2 * n) = 2 * n := IntWalk.i64_in _ (by omega)
    have w3 : IntKind.u64.wrap (2 * n) = 2 * n := by rw [IntKind.wrap_u64]; omega
    go_enter Try.func25, Try.ntmps25
    go_wp2
    go_ret
    refine ⟨?_, rfl⟩
    rw [HZ.out]
    rfl

/-- a sum's bytes. -/
def fourN (u : Nat) : List Nat := [u % 256, u / 256 % 256, u / 65536 % 256, u / 16777216 % 256]

theorem four_walk (w : World) (u : Nat) (hu : u < 4294967296) : Calls Try.prog 23 #[.int .u32 u] w fun e w' => e = .returned (.slice (some ⟨w.heap.size, 0, none⟩) 4 4) ∧ w' = w.alloc (.cells #[.int .u8 ((u : Int) % 256), .int .u8 ((u : Int) / 256 % 256), .int .u8 ((u : Int) / 65536 % 256), .int .u8 ((u : Int) / 16777216)] 5) := by
  go_enter Try.func23, Try.ntmps23
  go_wp2
  go_ret
  exact ⟨rfl, rfl⟩
end Go.Proofs.Ytgebjmcdebdbmaa
