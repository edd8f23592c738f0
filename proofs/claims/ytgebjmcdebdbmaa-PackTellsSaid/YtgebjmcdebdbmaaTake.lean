/- Take, the program's and the document's: plain law and walks. -/
import Derived.Test.YtgebjmcdebdbmaaUint
import Derived.Laws.ShiftsVar
import Derived.Laws.ShiftsVarLaws
namespace Go.Proofs.Ytgebjmcdebdbmaa
open Go.RowKit Go.Pairs

/-- the number that the bytes l, from place i on, go on with. -/
def tk : Nat → Nat → List Nat → Option (Nat × Nat)
  | _, _, [] => none
  | i, a, c :: l => if 10 ≤ i then none else if 128 ≤ c then tk (i + 1) (a + c % 128 * 128 ^ i) l else if (i = 9 ∧ 1 < c) ∨ (0 < i ∧ c = 0) then none else some (a + c % 128 * 128 ^ i, i + 1)
def takeN (bs : List Nat) : Option (Nat × Nat) := tk 0 0 bs

def takeV : Option (Nat × Nat) → Value
  | some q => .tuple #[.int .u64 q.1, .int .i64 q.2, .bool true]
  | none => .tuple #[.int .u64 0, .int .i64 0, .bool false]

theorem tk_ten (a : Nat) (l : List Nat) : tk 10 a l = none := by cases l <;> simp [tk]
theorem tk_end (i a : Nat) : tk i a [] = none := rfl

theorem or_step (a c k : Nat) (hk : k ≤ 9) (ha : a < 128 ^ k) : a ||| (c * 128 ^ k % 18446744073709551616) = (a + c * 128 ^ k) % 18446744073709551616 := by
  have e : (128 : Nat) ^ k = 2 ^ (7 * k) := by rw [Nat.pow_mul]
  rw [e] at ha ⊢
  obtain ⟨d, hd⟩ : ∃ d, d = 64 - 7 * k := ⟨_, rfl⟩
  have hM : (18446744073709551616 : Nat) = 2 ^ (7 * k) * 2 ^ d := by rw [← Nat.pow_add, hd, show 7 * k + (64 - 7 * k) = 64 by omega]
  have hx : c * 2 ^ (7 * k) % 18446744073709551616 = (c % 2 ^ d) * 2 ^ (7 * k) := by
    rw [hM, Nat.mul_comm c, Nat.mul_mod_mul_left, Nat.mul_comm]
  rw [Nat.or_comm, nat_join (7 * k) _ a (by rw [hx]; exact Nat.mul_mod_left _ _) ha, hx]
  have hd2 : 0 < 2 ^ d := Nat.two_pow_pos d
  have hlt : (c % 2 ^ d) * 2 ^ (7 * k) + a < 18446744073709551616 := by
    have h1 : c % 2 ^ d + 1 ≤ 2 ^ d := Nat.mod_lt c hd2
    have h2 := Nat.mul_le_mul_right (2 ^ (7 * k)) h1
    rw [Nat.add_mul, Nat.one_mul, Nat.mul_comm (2 ^ d)] at h2
    omega
  rw [Nat.add_comm a, Nat.add_mod, hx]
  rw [Nat.mod_eq_of_lt (show a < 18446744073709551616 by omega), Nat.mod_eq_of_lt hlt]

theorem or_val (a c k : Nat) (hk : k ≤ 9) (ha : a < 128 ^ k) : bits .or .u64 ((a % 18446744073709551616 : Nat) : Int) (IntKind.u64.wrap ((c : Int) % 128 * 2 ^ (7 * k))) = (((a + c % 128 * 128 ^ k) % 18446744073709551616 : Nat) : Int) := by
  have h9 : (128 : Nat) ^ k ≤ 128 ^ 9 := Nat.pow_le_pow_right (by omega) hk
  have e : IntKind.u64.wrap ((c : Int) % 128 * 2 ^ (7 * k)) = ((c % 128 * 128 ^ k % 18446744073709551616 : Nat) : Int) := by
    rw [IntKind.wrap_u64, show (128 : Nat) ^ k = 2 ^ (7 * k) by rw [Nat.pow_mul]]
    simp
  rw [e, Nat.mod_eq_of_lt (show a < 18446744073709551616 by omega), u64_or_nat a _ (by omega) (Nat.mod_lt _ (by omega)), or_step a (c % 128) k hk ha]

theorem val_lt {a c k : Nat} (ha : a < 128 ^ k) : a + c % 128 * 128 ^ k < 128 ^ (k + 1) := by
  have h1 : c % 128 + 1 ≤ 128 := Nat.mod_lt c (by omega)
  have h2 := Nat.mul_le_mul_right (128 ^ k) h1
  rw [Nat.add_mul, Nat.one_mul] at h2
  rw [Nat.pow_succ]
  omega

theorem val_small {a c k : Nat} (ha : a < 128 ^ k) (hk : k ≤ 9) (h : k = 9 → c ≤ 1) : a + c % 128 * 128 ^ k < 18446744073709551616 := by
  by_cases h9 : k = 9
  · subst h9
    have := h rfl
    have : c % 128 ≤ 1 := by omega
    have := Nat.mul_le_mul_right (128 ^ 9) this
    omega
  · have h1 := val_lt (c := c) ha
    have h8 : (128 : Nat) ^ (k + 1) ≤ 128 ^ 9 := Nat.pow_le_pow_right (by omega) (by omega)
    omega

set_option maxRecDepth 100000 in
set_option maxHeartbeats 4000000 in
theorem take_walk (w : World) (so : Option Addr) (cap : Nat) (bs : List Nat) (h : BS w so bs) :
    Calls Try.prog 9 #[.slice so bs.length cap] w fun e w' => e = .returned (takeV (takeN bs)) ∧ w' = w := by
  have HB := hidp h
  have hl := h.2.2
  clear h
  go_enter Try.func9, Try.ntmps9
  by_cases h10 : 10 < bs.length
  · have t0 : decide (10 < bs.length) = true := by simpa using h10
    go_wp2
    go_loopw [2, 10] (fun nv i wr => wr = w ∧ ∃ (k a : Nat), k ≤ 10 ∧ i = .int .i64 k ∧ nv = .int .u64 ((a % 18446744073709551616 : Nat) : Int) ∧ a < 128 ^ k ∧ tk 0 0 bs = tk k a (bs.drop k)) (fun _ i _ => 10 - (intOf i).toNat)
    case atStart => exact ⟨rfl, 0, 0, Nat.zero_le _, rfl, rfl, by simp, rfl⟩
    case round =>
      obtain ⟨rfl, k, a, hk, rfl, rfl, ha, htk⟩ := hrel
      by_cases hlt : k < 10
      · have hkl : k < bs.length := by omega
        obtain ⟨b, off, rfl, hc⟩ := HB.out.1 k hkl
        have hb := HB.out.2.1 bs[k] (List.getElem_mem hkl)
        rw [List.drop_eq_getElem_cons hkl, tk, if_neg (by omega)] at htk
        obtain ⟨c, hce⟩ : ∃ c, c = bs[k] := ⟨_, rfl⟩
        rw [← hce] at hc hb htk
        obtain ⟨r, hr⟩ : ∃ r, r = a % 18446744073709551616 := ⟨_, rfl⟩
        rw [← hr]
        have HT := hidp (And.intro ha (And.intro htk hr))
        have hr64 : r < 18446744073709551616 := by omega
        have t1 : decide (k < 10) = true := by simpa using hlt
        have t1' : decide ((k : Int) < 10) = true := by simp; omega
        have t2 : ((k : Int) < bs.length) := by omega
        have hw : IntKind.i64.wrap ((k : Int) + 1) = k + 1 := IntWalk.i64_in _ (by omega)
        have hw7 : IntKind.i64.wrap (7 * (k : Int)) = 7 * k := IntWalk.i64_in _ (by omega)
        have hand : bits .and .u8 (c : Int) 127 = ((c % 128 : Nat) : Int) := by
          have := u8_and_nat c 127 hb (by omega)
          rwa [show (c &&& 127) = c % 128 from Nat.and_two_pow_sub_one_eq_mod c 7] at this
        clear hce htk ha hr
        by_cases hc128 : 128 ≤ c
        · have t3 : decide (128 ≤ c) = true := by simpa using hc128
          have t3' : decide ((128 : Int) ≤ c) = true := by simp; omega
          go_wp2
          have hv := or_val a c k (by omega) HT.out.1
          rw [← HT.out.2.2] at hv
          refine ⟨⟨trivial, k + 1, a + c % 128 * 128 ^ k, by omega, by simp, by rw [hv], val_lt HT.out.1, ?_⟩, by simp [intOf]; omega⟩
          rw [HT.out.2.1, if_pos hc128]
        · have t3 : decide (128 ≤ c) = false := by simpa using hc128
          have t3' : decide ((128 : Int) ≤ c) = false := by simp; omega
          by_cases hbad : (k = 9 ∧ 1 < c) ∨ (0 < k ∧ c = 0)
          · have hres : takeN bs = none := by unfold takeN; rw [HT.out.2.1, if_neg hc128, if_pos hbad]
            have HRES := hidp hres
            have hbad' : (((k : Int) == 9) = true ∧ decide (1 < c) = true ∧ decide ((1 : Int) < c) = true) ∨ (((k : Int) == 9) = true ∧ decide (1 < c) = false ∧ decide ((1 : Int) < c) = false ∧ decide (0 < k) = true ∧ ((c : Int) == 0) = true) ∨ (((k : Int) == 9) = false ∧ decide (0 < k) = true ∧ ((c : Int) == 0) = true) := by
              simp only [beq_iff_eq, beq_eq_false_iff_ne, ne_eq, decide_eq_true_eq, decide_eq_false_iff_not]
              omega
            clear hbad hres HT hb
            rcases hbad' with ⟨u1, u2, u2'⟩ | ⟨u1, u2, u2', u3, u4⟩ | ⟨u1, u3, u4⟩
            all_goals
              go_wp2
              go_ret3
              rw [HRES.out]
              exact ⟨rfl, rfl⟩
          · have hres : takeN bs = some (a + c % 128 * 128 ^ k, k + 1) := by unfold takeN; rw [HT.out.2.1, if_neg hc128, if_neg hbad]
            have hv := or_val a c k (by omega) HT.out.1
            rw [Nat.mod_eq_of_lt (val_small (c := c) HT.out.1 (by omega) (by omega)), ← HT.out.2.2] at hv
            obtain ⟨z, hz⟩ : ∃ z, z = a + c % 128 * 128 ^ k := ⟨_, rfl⟩
            rw [← hz] at hv hres
            have HRES := hidp hres
            have hok : (((k : Int) == 9) = true ∧ decide (1 < c) = false ∧ decide ((1 : Int) < c) = false ∧ decide (0 < k) = true ∧ ((c : Int) == 0) = false) ∨ (((k : Int) == 9) = false ∧ decide (0 < k) = true ∧ ((c : Int) == 0) = false) ∨ (((k : Int) == 9) = false ∧ decide (0 < k) = false) := by
              simp only [beq_iff_eq, beq_eq_false_iff_ne, ne_eq, decide_eq_true_eq, decide_eq_false_iff_not]
              omega
            clear hbad hres HT hz
            rcases hok with ⟨u1, u2, u2', u3, u4⟩ | ⟨u1, u3, u4⟩ | ⟨u1, u3⟩
            all_goals
              go_wp2
              go_ret3
              rw [HRES.out]
              exact ⟨by simp [takeV], rfl⟩
      · obtain rfl : k = 10 := by omega
        have t1 : decide (10 < 10) = false := by simp
        have hres : takeN bs = none := by unfold takeN; rw [htk]; exact tk_ten _ _
        have HRES := hidp hres
        clear htk ha hlt hk hres
        go_wp2
        go_ret3
        rw [HRES.out]
        exact ⟨rfl, rfl⟩
  · have t0 : decide (10 < bs.length) = false := by simpa using h10
    go_wp2
    go_loopw [2, 10] (fun nv i wr => wr = w ∧ ∃ (k a : Nat), k ≤ bs.length ∧ i = .int .i64 k ∧ nv = .int .u64 ((a % 18446744073709551616 : Nat) : Int) ∧ a < 128 ^ k ∧ tk 0 0 bs = tk k a (bs.drop k)) (fun _ i _ => bs.length - (intOf i).toNat)
    case atStart => exact ⟨rfl, 0, 0, Nat.zero_le _, rfl, rfl, by simp, rfl⟩
    case round =>
      obtain ⟨rfl, k, a, hk, rfl, rfl, ha, htk⟩ := hrel
      by_cases hlt : k < bs.length
      · have hkl : k < bs.length := by omega
        obtain ⟨b, off, rfl, hc⟩ := HB.out.1 k hkl
        have hb := HB.out.2.1 bs[k] (List.getElem_mem hkl)
        rw [List.drop_eq_getElem_cons hkl, tk, if_neg (by omega)] at htk
        obtain ⟨c, hce⟩ : ∃ c, c = bs[k] := ⟨_, rfl⟩
        rw [← hce] at hc hb htk
        obtain ⟨r, hr⟩ : ∃ r, r = a % 18446744073709551616 := ⟨_, rfl⟩
        rw [← hr]
        have HT := hidp (And.intro ha (And.intro htk hr))
        have hr64 : r < 18446744073709551616 := by omega
        have t1 : decide (k < bs.length) = true := by simpa using hlt
        have t1' : decide ((k : Int) < bs.length) = true := by simp; omega
        have t2 : ((k : Int) < bs.length) := by omega
        have hw : IntKind.i64.wrap ((k : Int) + 1) = k + 1 := IntWalk.i64_in _ (by omega)
        have hw7 : IntKind.i64.wrap (7 * (k : Int)) = 7 * k := IntWalk.i64_in _ (by omega)
        have hand : bits .and .u8 (c : Int) 127 = ((c % 128 : Nat) : Int) := by
          have := u8_and_nat c 127 hb (by omega)
          rwa [show (c &&& 127) = c % 128 from Nat.and_two_pow_sub_one_eq_mod c 7] at this
        clear hce htk ha hr
        by_cases hc128 : 128 ≤ c
        · have t3 : decide (128 ≤ c) = true := by simpa using hc128
          have t3' : decide ((128 : Int) ≤ c) = true := by simp; omega
          go_wp2
          have hv := or_val a c k (by omega) HT.out.1
          rw [← HT.out.2.2] at hv
          refine ⟨⟨trivial, k + 1, a + c % 128 * 128 ^ k, by omega, by simp, by rw [hv], val_lt HT.out.1, ?_⟩, by simp [intOf]; omega⟩
          rw [HT.out.2.1, if_pos hc128]
        · have t3 : decide (128 ≤ c) = false := by simpa using hc128
          have t3' : decide ((128 : Int) ≤ c) = false := by simp; omega
          by_cases hbad : (k = 9 ∧ 1 < c) ∨ (0 < k ∧ c = 0)
          · have hres : takeN bs = none := by unfold takeN; rw [HT.out.2.1, if_neg hc128, if_pos hbad]
            have HRES := hidp hres
            have hbad' : (((k : Int) == 9) = true ∧ decide (1 < c) = true ∧ decide ((1 : Int) < c) = true) ∨ (((k : Int) == 9) = true ∧ decide (1 < c) = false ∧ decide ((1 : Int) < c) = false ∧ decide (0 < k) = true ∧ ((c : Int) == 0) = true) ∨ (((k : Int) == 9) = false ∧ decide (0 < k) = true ∧ ((c : Int) == 0) = true) := by
              simp only [beq_iff_eq, beq_eq_false_iff_ne, ne_eq, decide_eq_true_eq, decide_eq_false_iff_not]
              omega
            clear hbad hres HT hb
            rcases hbad' with ⟨u1, u2, u2'⟩ | ⟨u1, u2, u2', u3, u4⟩ | ⟨u1, u3, u4⟩
            all_goals
              go_wp2
              go_ret3
              rw [HRES.out]
              exact ⟨rfl, rfl⟩
          · have hres : takeN bs = some (a + c % 128 * 128 ^ k, k + 1) := by unfold takeN; rw [HT.out.2.1, if_neg hc128, if_neg hbad]
            have hv := or_val a c k (by omega) HT.out.1
            rw [Nat.mod_eq_of_lt (val_small (c := c) HT.out.1 (by omega) (by omega)), ← HT.out.2.2] at hv
            obtain ⟨z, hz⟩ : ∃ z, z = a + c % 128 * 128 ^ k := ⟨_, rfl⟩
            rw [← hz] at hv hres
            have HRES := hidp hres
            have hok : (((k : Int) == 9) = true ∧ decide (1 < c) = false ∧ decide ((1 : Int) < c) = false ∧ decide (0 < k) = true ∧ ((c : Int) == 0) = false) ∨ (((k : Int) == 9) = false ∧ decide (0 < k) = true ∧ ((c : Int) == 0) = false) ∨ (((k : Int) == 9) = false ∧ decide (0 < k) = false) := by
              simp only [beq_iff_eq, beq_eq_false_iff_ne, ne_eq, decide_eq_true_eq, decide_eq_false_iff_not]
              omega
            clear hbad hres HT hz
            rcases hok with ⟨u1, u2, u2', u3, u4⟩ | ⟨u1, u3, u4⟩ | ⟨u1, u3⟩
            all_goals
              go_wp2
              go_ret3
              rw [HRES.out]
              exact ⟨by simp [takeV], rfl⟩
      · obtain rfl : k = bs.length := by omega
        have t1 : decide (bs.length < bs.length) = false := by simp
        have hres : takeN bs = none := by unfold takeN; rw [htk]; rw [List.drop_length]; exact tk_end _ _
        have HRES := hidp hres
        clear htk ha hlt hk hres
        go_wp2
        go_ret3
        rw [HRES.out]
        exact ⟨rfl, rfl⟩
end Go.Proofs.Ytgebjmcdebdbmaa
