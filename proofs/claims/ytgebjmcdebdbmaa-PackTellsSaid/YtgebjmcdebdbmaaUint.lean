/- Uint, the program's and the document's. -/
import Derived.Test.YtgebjmcdebdbmaaSum
import Derived.OwnWalk
import Derived.Maps.AppendAt
import Derived.Scope
import Derived.WalkMore
import Derived.ScopeJumps
namespace Go.Proofs.Ytgebjmcdebdbmaa
open Go.RowKit Go.Pairs

theorem info5 : (Try.prog.info? 5).map (fun i => (i.zero, i.size, i.bytes)) = some (some (.int .u8 0), 1, 1) := by kernel_rfl

def byts (bs : List Nat) : List Value := bs.map fun (x : Nat) => Value.int .u8 (x : Int)
theorem byts_app (a b : List Nat) : byts (a ++ b) = byts a ++ byts b := by simp [byts]
theorem byts_len (a : List Nat) : (byts a).length = a.length := by simp [byts]

theorem slice_of {w : World} {B e sz : Nat} {v : Value} {n : Nat} {xs : List Value} (h : w.ownsRow B e sz v n xs) : ∃ ao cap, v = .slice ao n cap ∧ (0 < n → ∃ g, ao = some ⟨g, 0, none⟩ ∧ B ≤ g) := by
  rcases h.2 with ⟨h1, h2⟩ | ⟨g, cap, cur, h1, h2, -⟩
  · exact ⟨none, 0, by rw [h1, h2], by omega⟩
  · exact ⟨_, cap, h1, fun _ => ⟨g, rfl, h2⟩⟩
theorem own_ge {w : World} {B e sz : Nat} {v : Value} {n : Nat} {xs : List Value} (h : w.ownsRow B e sz v n xs) (k : Nat) (hk : some k = v.ownBlock) : B ≤ k := (h.lt k hk.symm).1
theorem keeps_row {S : Nat → Prop} {w w' : World} (hk : Keeps S w w') {B e sz : Nat} {v : Value} {n : Nat} {xs : List Value} (h : w.ownsRow B e sz v n xs) (hs : ∀ k, v.ownBlock = some k → ¬ S k) : w'.ownsRow B e sz v n xs := by
  rcases h with ⟨h1, h2 | ⟨g, cap, cur, h2, h3, h4, h5⟩⟩
  · exact ⟨h1, .inl h2⟩
  · exact ⟨h1, .inr ⟨g, cap, cur, h2, h3, (hk.block g (Array.getElem?_eq_some_iff.1 h4).1 (hs g (by rw [h2]; rfl))).trans h4, h5⟩⟩

/-- a row of the caller's reads as its bytes. -/
theorem bs_own {w : World} {B : Nat} {oa : Option Addr} {c : Nat} {bs : List Nat} (h : w.ownsRow B 5 1 (.slice oa bs.length c) bs.length (byts bs)) (hb : ∀ x ∈ bs, x < 256) (hl : bs.length ≤ 9223372036854775807) : BS w oa bs := by
  refine ⟨fun i hi => ?_, hb, hl⟩
  obtain ⟨ao, cap, h1, h2⟩ := slice_of h
  obtain ⟨g, rfl, -⟩ := h2 (by omega)
  obtain ⟨rfl, rfl⟩ : oa = some ⟨g, 0, none⟩ ∧ c = cap := by simpa using h1
  refine ⟨g, 0, rfl, ?_⟩
  rw [Nat.zero_add, h.cellAt i (by omega)]
  simp [byts, hi]

/-- a number in groups of seven bits. -/
def uintN (n : Nat) : List Nat := if h : n < 128 then [n] else (n % 128 + 128) :: uintN (n / 128)
termination_by n
decreasing_by omega

theorem uintN_small {n : Nat} (h : n < 128) : uintN n = [n] := by rw [uintN]; simp [h]
theorem uintN_big {n : Nat} (h : ¬ n < 128) : uintN n = (n % 128 + 128) :: uintN (n / 128) := by rw [uintN]; simp [h]
theorem uintN_lt (n : Nat) : ∀ x ∈ uintN n, x < 256 := by
  induction n using Nat.strongRecOn with
  | _ n ih =>
    intro x hx
    by_cases h : n < 128
    · rw [uintN_small h] at hx
      simp at hx; omega
    · rw [uintN_big h] at hx
      rcases List.mem_cons.1 hx with rfl | hx
      · omega
      · exact ih (n / 128) (by omega) x hx
theorem uintN_pos (n : Nat) : 1 ≤ (uintN n).length := by
  by_cases h : n < 128
  · rw [uintN_small h]; simp
  · rw [uintN_big h]; simp
theorem uintN_len : ∀ (k n : Nat), n < 128 ^ (k + 1) → (uintN n).length ≤ k + 1
  | 0, n, h => by rw [uintN_small (by simpa using h)]; simp
  | k + 1, n, h => by
    by_cases hn : n < 128
    · rw [uintN_small hn]; simp
    · rw [uintN_big hn]
      have := uintN_len k (n / 128) (by rw [Nat.div_lt_iff_lt_mul (by omega)]; rw [Nat.pow_succ] at h; exact h)
      simp; omega
theorem uintN_len10 {n : Nat} (h : n < 18446744073709551616) : (uintN n).length ≤ 10 := uintN_len 9 n (by omega)

theorem b_or (n : Nat) : bits .or .u8 ((n % 256 : Nat) : Int) 128 = ((n % 128 + 128 : Nat) : Int) := by
  have := u8_or_nat (n % 256) 128 (by omega) (by omega)
  rw [show ((128 : Nat) : Int) = 128 by rfl] at this
  rw [this]
  congr 1
  have h2 : n % 256 ||| 128 = (n % 256) % 128 ||| 128 := by
    apply Nat.eq_of_testBit_eq
    intro i
    rw [Nat.testBit_or, Nat.testBit_or, show (128 : Nat) = 2 ^ 7 by rfl, Nat.testBit_mod_two_pow]
    by_cases h : i < 7
    · simp [h]
    · by_cases h7 : i = 7
      · subst h7; simp [show Nat.testBit 128 7 = true by decide]
      · have h8 : n % 256 < 2 ^ i := Nat.lt_of_lt_of_le (show n % 256 < 2 ^ 8 by omega) (Nat.pow_le_pow_right (by omega) (by omega))
        simp [h, Nat.testBit_lt_two_pow h8]
  rw [h2, Nat.or_comm, nat_join 7 128 (n % 256 % 128) (by omega) (by omega)]
  omega

set_option maxHeartbeats 4000000 in
theorem refuint_walk (w : World) (n : Nat) (hn : n < 18446744073709551616) :
    Calls Try.prog 13 #[.int .u64 n] w fun e w' => (∃ oa oc, e = .returned (.slice oa (uintN n).length oc) ∧ w'.ownsRow w.heap.size 5 1 (.slice oa (uintN n).length oc) (uintN n).length (byts (uintN n))) ∧ Keeps (fun _ => False) w w' := by
  obtain ⟨i0, hi, hz0, hz1, hz2⟩ := info_parts info5
  have HL := hidp (uintN_len10 hn)
  go_enter Try.func13, Try.ntmps13
  go_wp2
  go_loopw [0, 3] (fun nv v wr => ∃ (m : Nat) (pre : List Nat), nv = .int .u64 m ∧ m < 18446744073709551616 ∧ wr.ownsRow w.heap.size 5 1 v pre.length (byts pre) ∧ pre ++ uintN m = uintN n ∧ Keeps (fun _ => False) w wr) (fun nv _ _ => (intOf nv).toNat)
  case atStart => exact ⟨n, [], rfl, hn, World.ownsRow_nil .., rfl, Keeps.refl _ _⟩
  case round =>
    obtain ⟨m, pre, rfl, hm, hown, hp, hK⟩ := hrel
    obtain ⟨oa, oc, rfl, -⟩ := slice_of hown
    have hpl : pre.length ≤ 10 := by have := congrArg List.length hp; rw [List.length_append] at this; have := HL.out; omega
    have HO := hidp (And.intro hown (And.intro hp hK))
    have hsz := hK.size
    clear hown hp hK
    by_cases hm128 : m < 128
    · have t1 : decide (128 ≤ m) = false := by simp; omega
      have t1' : decide ((128 : Int) ≤ m) = false := by simp; omega
      have hcv : IntKind.u8.wrap (m : Int) = m := by rw [IntKind.wrap_u8]; omega
      go_wp2_with (at_builtin; refine wpList_append_own_at _ rfl _ _ 23 rfl w.heap.size 5 i0 (.int .u8 0) 1 1 Try.underlying23 hi hz0 hz1 hz2 rfl (by decide) _ _ _ rfl (HO.out.1.alloc _) ⟨wr.heap.size, 0, none⟩ 1 1 [.int .u8 m] rfl rfl (cell_one_new _ _ _) ?c2 ?c3 ?c4 ?c5 ?_)
      case c2 => intro u hu; simp at hu; subst hu; rfl
      case c3 => unfold maxLen; omega
      case c4 => omega
      case c5 => simp; omega
      intro v' w7 hown7 hgr7 hnil7 hloc7
      have K7 : Keeps (fun _ => False) w w7 := ((HO.out.2.2.alloc _)).grown hgr7 (fun k e => .inr (own_ge HO.out.1 k e.symm))
      obtain ⟨a', c', rfl, -⟩ := slice_of hown7
      have hlast : pre ++ [m] = uintN n := by rw [← HO.out.2.1, uintN_small hm128]
      have hrow : w7.ownsRow w.heap.size 5 1 (.slice a' (pre.length + 1) c') (pre.length + 1) (byts (uintN n)) := by
        rw [← hlast, byts_app]; exact hown7
      have hll : pre.length + 1 = (uintN n).length := by rw [← hlast]; simp
      rw [hll] at hrow ⊢
      have HF := hidp (And.intro hrow K7)
      clear hown7 hgr7 hnil7 hloc7 K7 hlast hrow hll
      go_wp2
      go_ret
      exact ⟨⟨_, _, rfl, HF.out.1⟩, HF.out.2⟩
    · have t1 : decide (128 ≤ m) = true := by simp; omega
      have t1' : decide ((128 : Int) ≤ m) = true := by simp; omega
      have hcv : IntKind.u8.wrap ((m : Int) % 128) = ((m % 128 : Nat) : Int) := by rw [IntKind.wrap_u8]; omega
      have hcv2 : IntKind.u8.wrap (((m % 128 : Nat) : Int) + 128) = ((m % 128 + 128 : Nat) : Int) := by rw [IntKind.wrap_u8]; omega
      have hm2 : (m : Int).tmod 128 = ((m % 128 : Nat) : Int) := by rw [Int.tmod_eq_emod_of_nonneg (by omega)]; omega
      have hd2 : (m : Int).tdiv 128 = ((m / 128 : Nat) : Int) := by rw [Int.tdiv_eq_ediv_of_nonneg (by omega)]; omega
      go_wp2_with (at_builtin; refine wpList_append_own_at _ rfl _ _ 23 rfl w.heap.size 5 i0 (.int .u8 0) 1 1 Try.underlying23 hi hz0 hz1 hz2 rfl (by decide) _ _ _ rfl (HO.out.1.alloc _) ⟨wr.heap.size, 0, none⟩ 1 1 [.int .u8 ((m % 128 + 128 : Nat) : Int)] rfl rfl (cell_one_new _ _ _) ?c2 ?c3 ?c4 ?c5 ?_)
      case c2 => intro u hu; simp at hu; subst hu; rfl
      case c3 => unfold maxLen; omega
      case c4 => omega
      case c5 => simp; omega
      intro v' w7 hown7 hgr7 hnil7 hloc7
      have K7 : Keeps (fun _ => False) w w7 := ((HO.out.2.2.alloc _)).grown hgr7 (fun k e => .inr (own_ge HO.out.1 k e.symm))
      obtain ⟨a', c', rfl, -⟩ := slice_of hown7
      have hp2 : (pre ++ [m % 128 + 128]) ++ uintN (m / 128) = uintN n := by rw [← HO.out.2.1, uintN_big hm128]; simp
      have hrow : w7.ownsRow w.heap.size 5 1 (.slice a' (pre.length + 1) c') (pre ++ [m % 128 + 128]).length (byts (pre ++ [m % 128 + 128])) := by
        rw [byts_app, List.length_append]; exact hown7
      have HF := hidp (And.intro hrow (And.intro hp2 K7))
      clear hown7 hgr7 hnil7 hloc7 K7 hrow hp2
      go_wp2
      refine ⟨⟨m / 128, pre ++ [m % 128 + 128], by simp, by omega, HF.out⟩, ?_⟩
      simp [intOf]; omega

theorem run_full3 (w : World) (g q c : Nat) (hcap : q ≤ c) : (Instr.slice 23 (.slice (some ⟨g, 0, none⟩) q c) none (some (.int .i64 (q : Int))) (some (.int .i64 (q : Int)))).run Try.prog w = .ok (.slice (some ⟨g, 0, none⟩) q q) w := by
  have h3 : (⟨g, 0, none⟩ : Addr).add 0 = ⟨g, 0, none⟩ := rfl
  simp [Instr.slice, run_underlying Try.underlying23, Instr.sliceBounds, Instr.sliceBound, asIntOf, sizeOf, hcap, h3]
set_option maxRecDepth 1000000 in
set_option maxHeartbeats 4000000 in
theorem uint_walk (w : World) (n : Nat) (hn : n < 18446744073709551616) :
    Calls Try.prog 12 #[.int .u64 n] w fun e w' => (∃ oa oc, e = .returned (.slice oa (uintN n).length oc) ∧ BS w' oa (uintN n) ∧ ∀ k, some k = (Value.slice oa (uintN n).length oc).ownBlock → w.heap.size ≤ k) ∧ Keeps (fun _ => False) w w' := by
  obtain ⟨i0, hi, hz0, hz1, hz2⟩ := info_parts info5
  have HL := hidp (uintN_len10 hn)
  go_enter Try.func12, Try.ntmps12
  go_wp2
  refine wp_scope_jumps 0 (fun a' w' => ∃ (m : Nat) (pre : List Nat) (v u4 u5 u6 u7 u8 u9 u10 u11 u12 u13 u14 u15 u16 u17 u18 u19 u20 u21 u22 u23 u24 u25 : Value), a' = { tmps := #[.int .u64 m, undef, .slice none 0 0, v, u4, u5, u6, u7, u8, u9, u10, u11, u12, u13, u14, u15, u16, u17, u18, u19, u20, u21, u22, u23, u24, u25], defers := [] } ∧ m < 18446744073709551616 ∧ w'.ownsRow w.heap.size 5 1 v pre.length (byts pre) ∧ pre ++ uintN m = uintN n ∧ Keeps (fun _ => False) w w') (fun a' _ => (intOf (a'.tmps.getD 0 undef)).toNat) rfl ?_ ?_
  · go_wp2_with (at_make; refine wpList_make_own _ rfl _ _ 23 rfl w.heap.size 5 i0 (.int .u8 0) 1 Try.underlying23 hi hz0 hz1 .i64 .i64 10 10 rfl rfl rfl (by rw [hz2]; omega) (by unfold maxLen; omega) (Nat.le_refl _) ?_; intro w1 hown1 hgr1)
    go_step3
    have K1 : Keeps (fun _ => False) w w1 := (Keeps.refl _ _).grown hgr1 (fun k e => by simp at e)
    have hsz := K1.size
    have HO := hidp (And.intro (show w1.ownsRow w.heap.size 5 1 (.slice (some ⟨w.heap.size, 0, none⟩) 0 10) 0 (byts ([] : List Nat)) from hown1) (And.intro (show ([] : List Nat) ++ uintN n = uintN n from rfl) K1))
    clear hown1 hgr1 K1
    by_cases hm128 : n < 128
    · have t1 : decide (128 ≤ n) = false := by simp; omega
      have t1' : decide ((128 : Int) ≤ n) = false := by simp; omega
      have hcv : IntKind.u8.wrap (n : Int) = n := by rw [IntKind.wrap_u8]; omega
      go_wp2_with (at_builtin; refine wpList_append_own_at _ rfl _ _ 23 rfl w.heap.size 5 i0 (.int .u8 0) 1 1 Try.underlying23 hi hz0 hz1 hz2 rfl (by decide) _ _ _ rfl (HO.out.1.alloc _) ⟨w1.heap.size, 0, none⟩ 1 1 [.int .u8 n] rfl rfl (cell_one_new _ _ _) ?c2 ?c3 ?c4 ?c5 ?_)
      case c2 => intro u hu; simp at hu; subst hu; rfl
      case c3 => unfold maxLen; omega
      case c4 => omega
      case c5 => simp; omega
      intro v' w7 hown7 hgr7 hnil7 hloc7
      have K7 : Keeps (fun _ => False) w w7 := ((HO.out.2.2.alloc _)).grown hgr7 (fun k e => .inr (own_ge HO.out.1 k e.symm))
      obtain ⟨a', c', rfl, -⟩ := slice_of hown7
      have hlast : ([] : List Nat) ++ [n] = uintN n := by rw [← HO.out.2.1, uintN_small hm128]
      have hrow : w7.ownsRow w.heap.size 5 1 (.slice a' (0 + 1) c') (0 + 1) (byts (uintN n)) := by
        rw [← hlast, byts_app]; exact hown7
      have hll : 0 + 1 = (uintN n).length := by rw [← hlast]; simp
      have hrow : w7.ownsRow w.heap.size 5 1 (.slice a' 1 c') 1 (byts (uintN n)) := hrow
      have hll : 1 = (uintN n).length := hll
      have hrow2 : w7.ownsRow w.heap.size 5 1 (.slice a' (uintN n).length c') (uintN n).length (byts (uintN n)) := by rw [← hll]; exact hrow
      have hbs : BS w7 a' (uintN n) := bs_own hrow2 (uintN_lt n) (by have := HL.out; omega)
      have hq1 : 1 ≤ 1 := by have := uintN_pos n; omega
      obtain ⟨g, rfl, hgw⟩ : ∃ g, a' = some ⟨g, 0, none⟩ ∧ w.heap.size ≤ g := by
        obtain ⟨ao, cap, h1, h2⟩ := slice_of hrow
        obtain ⟨g, h3, h4⟩ := h2 hq1
        exact ⟨g, by have := h1; simp at this; rw [this.1, h3], h4⟩
      have hcap : 1 ≤ c' := by
        rcases hrow.2 with ⟨h1, -⟩ | ⟨g', cap, cur, h1, -, -, h2, -⟩
        · cases h1
        · simp at h1; omega
      have HF := hidp (And.intro hbs (And.intro hgw K7))
      have HQ := hidp hll
      have hsl := run_full3 w7 g 1 c' hcap
      clear hown7 hgr7 hnil7 hloc7 K7 hlast hrow hrow2 hll hbs hgw
      go_wp2
      simp only [Exit.jump]
      go_ret
      refine ⟨⟨some ⟨g, 0, none⟩, 1, by rw [← HQ.out]; rfl, HF.out.1, fun k e => ?_⟩, HF.out.2.2⟩
      simp [Value.ownBlock] at e
      rw [e]; exact HF.out.2.1
    · have t1 : decide (128 ≤ n) = true := by simp; omega
      have t1' : decide ((128 : Int) ≤ n) = true := by simp; omega
      obtain ⟨z, hz⟩ : ∃ z, z = n % 128 + 128 := ⟨_, rfl⟩
      have hor : bits .or .u8 ((n : Int) % 256) 128 = (z : Int) := by
        rw [hz, ← b_or]; congr 1
      have HZ := hidp hz
      clear hz
      go_wp2_with (at_builtin; refine wpList_append_own_at _ rfl _ _ 23 rfl w.heap.size 5 i0 (.int .u8 0) 1 1 Try.underlying23 hi hz0 hz1 hz2 rfl (by decide) _ _ _ rfl (HO.out.1.alloc _) ⟨w1.heap.size, 0, none⟩ 1 1 [.int .u8 z] rfl rfl (cell_one_new _ _ _) ?c2 ?c3 ?c4 ?c5 ?_)
      case c2 => intro u hu; simp at hu; subst hu; rfl
      case c3 => unfold maxLen; omega
      case c4 => omega
      case c5 => simp; omega
      intro v' w7 hown7 hgr7 hnil7 hloc7
      have K7 : Keeps (fun _ => False) w w7 := ((HO.out.2.2.alloc _)).grown hgr7 (fun k e => .inr (own_ge HO.out.1 k e.symm))
      obtain ⟨a', c', rfl, -⟩ := slice_of hown7
      have hp2 : (([] : List Nat) ++ [z]) ++ uintN (n / 128) = uintN n := by rw [← HO.out.2.1, uintN_big hm128, HZ.out]; simp
      have hrow : w7.ownsRow w.heap.size 5 1 (.slice a' (0 + 1) c') (([] : List Nat) ++ [z]).length (byts (([] : List Nat) ++ [z])) := by
        rw [byts_app, List.length_append]; exact hown7
      have HF := hidp (And.intro hrow (And.intro hp2 K7))
      clear hown7 hgr7 hnil7 hloc7 K7 hrow hp2
      go_wp2
      go_step3
      refine ⟨rfl, n / 128, [z], _, _, _, _, _, _, _, _, _, _, _, _, _, _, _, _, _, _, _, _, _, _, _, rfl, by omega, HF.out⟩
  · rintro a' wr ⟨m, pre, v, u4, u5, u6, u7, u8, u9, u10, u11, u12, u13, u14, u15, u16, u17, u18, u19, u20, u21, u22, u23, u24, u25, rfl, hm, hown, hp, hK⟩
    obtain ⟨oa, oc, rfl, -⟩ := slice_of hown
    have hpl : pre.length ≤ 10 := by have := congrArg List.length hp; rw [List.length_append] at this; have := HL.out; omega
    have HO := hidp (And.intro hown (And.intro hp hK))
    have hsz := hK.size
    clear hown hp hK
    by_cases hm128 : m < 128
    · have t1 : decide (128 ≤ m) = false := by simp; omega
      have t1' : decide ((128 : Int) ≤ m) = false := by simp; omega
      have hcv : IntKind.u8.wrap (m : Int) = m := by rw [IntKind.wrap_u8]; omega
      go_wp2_with (at_builtin; refine wpList_append_own_at _ rfl _ _ 23 rfl w.heap.size 5 i0 (.int .u8 0) 1 1 Try.underlying23 hi hz0 hz1 hz2 rfl (by decide) _ _ _ rfl (HO.out.1.alloc _) ⟨wr.heap.size, 0, none⟩ 1 1 [.int .u8 m] rfl rfl (cell_one_new _ _ _) ?c2 ?c3 ?c4 ?c5 ?_)
      case c2 => intro u hu; simp at hu; subst hu; rfl
      case c3 => unfold maxLen; omega
      case c4 => omega
      case c5 => simp; omega
      intro v' w7 hown7 hgr7 hnil7 hloc7
      have K7 : Keeps (fun _ => False) w w7 := ((HO.out.2.2.alloc _)).grown hgr7 (fun k e => .inr (own_ge HO.out.1 k e.symm))
      obtain ⟨a', c', rfl, -⟩ := slice_of hown7
      have hlast : pre ++ [m] = uintN n := by rw [← HO.out.2.1, uintN_small hm128]
      have hrow : w7.ownsRow w.heap.size 5 1 (.slice a' (pre.length + 1) c') (pre.length + 1) (byts (uintN n)) := by
        rw [← hlast, byts_app]; exact hown7
      have hll : pre.length + 1 = (uintN n).length := by rw [← hlast]; simp
      obtain ⟨q, hq⟩ : ∃ q, q = pre.length + 1 := ⟨_, rfl⟩
      rw [← hq] at hrow hll ⊢
      have hrow2 : w7.ownsRow w.heap.size 5 1 (.slice a' (uintN n).length c') (uintN n).length (byts (uintN n)) := by rw [← hll]; exact hrow
      have hbs : BS w7 a' (uintN n) := bs_own hrow2 (uintN_lt n) (by have := HL.out; omega)
      have hq1 : 1 ≤ q := by have := uintN_pos n; omega
      obtain ⟨g, rfl, hgw⟩ : ∃ g, a' = some ⟨g, 0, none⟩ ∧ w.heap.size ≤ g := by
        obtain ⟨ao, cap, h1, h2⟩ := slice_of hrow
        obtain ⟨g, h3, h4⟩ := h2 hq1
        exact ⟨g, by have := h1; simp at this; rw [this.1, h3], h4⟩
      have hcap : q ≤ c' := by
        rcases hrow.2 with ⟨h1, -⟩ | ⟨g', cap, cur, h1, -, -, h2, -⟩
        · cases h1
        · simp at h1; omega
      have HF := hidp (And.intro hbs (And.intro hgw K7))
      have HQ := hidp hll
      have hsl := run_full3 w7 g q c' hcap
      clear hown7 hgr7 hnil7 hloc7 K7 hlast hrow hrow2 hll hbs hgw hq
      go_wp2
      simp only [Exit.jump]
      go_ret
      refine ⟨⟨some ⟨g, 0, none⟩, q, by rw [← HQ.out]; rfl, HF.out.1, fun k e => ?_⟩, HF.out.2.2⟩
      simp [Value.ownBlock] at e
      rw [e]; exact HF.out.2.1
    · have t1 : decide (128 ≤ m) = true := by simp; omega
      have t1' : decide ((128 : Int) ≤ m) = true := by simp; omega
      obtain ⟨z, hz⟩ : ∃ z, z = m % 128 + 128 := ⟨_, rfl⟩
      have hor : bits .or .u8 ((m : Int) % 256) 128 = (z : Int) := by
        rw [hz, ← b_or]; congr 1
      have HZ := hidp hz
      clear hz
      go_wp2_with (at_builtin; refine wpList_append_own_at _ rfl _ _ 23 rfl w.heap.size 5 i0 (.int .u8 0) 1 1 Try.underlying23 hi hz0 hz1 hz2 rfl (by decide) _ _ _ rfl (HO.out.1.alloc _) ⟨wr.heap.size, 0, none⟩ 1 1 [.int .u8 z] rfl rfl (cell_one_new _ _ _) ?c2 ?c3 ?c4 ?c5 ?_)
      case c2 => intro u hu; simp at hu; subst hu; rfl
      case c3 => unfold maxLen; omega
      case c4 => omega
      case c5 => simp; omega
      intro v' w7 hown7 hgr7 hnil7 hloc7
      have K7 : Keeps (fun _ => False) w w7 := ((HO.out.2.2.alloc _)).grown hgr7 (fun k e => .inr (own_ge HO.out.1 k e.symm))
      obtain ⟨a', c', rfl, -⟩ := slice_of hown7
      have hp2 : (pre ++ [z]) ++ uintN (m / 128) = uintN n := by rw [← HO.out.2.1, uintN_big hm128, HZ.out]; simp
      have hrow : w7.ownsRow w.heap.size 5 1 (.slice a' (pre.length + 1) c') (pre ++ [z]).length (byts (pre ++ [z])) := by
        rw [byts_app, List.length_append]; exact hown7
      have HF := hidp (And.intro hrow (And.intro hp2 K7))
      clear hown7 hgr7 hnil7 hloc7 K7 hrow hp2
      go_wp2
      go_step3
      refine ⟨rfl, ⟨m / 128, pre ++ [z], _, _, _, _, _, _, _, _, _, _, _, _, _, _, _, _, _, _, _, _, _, _, _, rfl, by omega, HF.out⟩, ?_⟩
      simp [intOf]; omega
end Go.Proofs.Ytgebjmcdebdbmaa
