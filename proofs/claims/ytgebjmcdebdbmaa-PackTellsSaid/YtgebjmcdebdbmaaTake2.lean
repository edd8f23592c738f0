/- The document's Take: plain law and walk. -/
import Derived.Test.YtgebjmcdebdbmaaTake
namespace Go.Proofs.Ytgebjmcdebdbmaa
open Go.RowKit Go.Pairs

/-- bytes that go on, and one that ends them. -/
def gnum : List Nat → Nat
  | [] => 0
  | c :: l => c % 128 + 128 * gnum l

theorem gnum_snoc : ∀ (l : List Nat) (c : Nat), gnum (l ++ [c]) = gnum l + c % 128 * 128 ^ l.length
  | [], c => by simp [gnum]
  | d :: l, c => by
    rw [List.cons_append, gnum, gnum, gnum_snoc l c, List.length_cons, Nat.pow_succ, Nat.mul_add]
    have : 128 * (c % 128 * 128 ^ l.length) = c % 128 * (128 ^ l.length * 128) := by rw [Nat.mul_left_comm, Nat.mul_comm 128]
    omega
theorem gnum_lt : ∀ l : List Nat, gnum l < 128 ^ l.length
  | [] => by simp [gnum]
  | c :: l => by have := gnum_lt l; rw [gnum, List.length_cons, Nat.pow_succ]; omega

/-- what is written as it must be comes back. -/
theorem uintN_gnum : ∀ (l : List Nat) (c : Nat), (∀ x ∈ l, 128 ≤ x ∧ x < 256) → c < 128 → (l = [] ∨ c ≠ 0) → uintN (gnum (l ++ [c])) = l ++ [c]
  | [], c, _, hc, _ => by
    have : gnum ([] ++ [c]) = c := by simp [gnum]; omega
    rw [this, uintN_small hc]; rfl
  | d :: l, c, hl, hc, h0 => by
    obtain ⟨hd1, hd2⟩ := hl d (by simp)
    have h0' : c ≠ 0 := by rcases h0 with h | h; · cases h
                           · exact h
    have ih := uintN_gnum l c (fun x hx => hl x (by simp [hx])) hc (.inr h0')
    have hpos : 0 < gnum (l ++ [c]) := by
      rw [gnum_snoc, Nat.mod_eq_of_lt hc]
      have : 0 < c * 128 ^ l.length := Nat.mul_pos (by omega) (Nat.pow_pos (by omega))
      omega
    rw [List.cons_append, gnum]
    rw [uintN_big (by omega)]
    rw [show (d % 128 + 128 * gnum (l ++ [c])) / 128 = gnum (l ++ [c]) by omega, ih]
    congr 1
    omega

def badAt (k c : Nat) : Prop := (k = 9 ∧ 1 < c) ∨ (0 < k ∧ c = 0)

theorem ref_good (l : List Nat) (c : Nat) (hl : ∀ x ∈ l, 128 ≤ x ∧ x < 256) (hc : c < 128) (hk : l.length ≤ 9) (hb : ¬ badAt l.length c) : gnum (l ++ [c]) % 18446744073709551616 = gnum (l ++ [c]) ∧ uintN (gnum (l ++ [c])) = l ++ [c] := by
  have h1 := gnum_lt l
  have hs : gnum (l ++ [c]) < 18446744073709551616 := by
    rw [gnum_snoc]
    exact val_small h1 hk (fun h => by unfold badAt at hb; omega)
  refine ⟨Nat.mod_eq_of_lt hs, uintN_gnum l c hl hc ?_⟩
  unfold badAt at hb
  by_cases h0 : l = []
  · exact .inl h0
  · have : 0 < l.length := List.length_pos_iff.2 h0
    exact .inr (by omega)

theorem ref_bad (l : List Nat) (c : Nat) (hl : ∀ x ∈ l, 128 ≤ x ∧ x < 256) (hc : c < 128) (hk : l.length ≤ 9) (hb : badAt l.length c) :
    (uintN (gnum (l ++ [c]) % 18446744073709551616)).length ≠ l.length + 1 ∨ ∃ d, (uintN (gnum (l ++ [c]) % 18446744073709551616)) = l ++ [d] ∧ d ≠ c := by
  have h1 := gnum_lt l
  have h9 : (128 : Nat) ^ l.length ≤ 128 ^ 9 := Nat.pow_le_pow_right (by omega) hk
  by_cases h0 : 0 < l.length ∧ c = 0
  · obtain ⟨h0, rfl⟩ := h0
    left
    rw [gnum_snoc, Nat.zero_mod, Nat.zero_mul, Nat.add_zero, Nat.mod_eq_of_lt (by omega)]
    have := uintN_len (l.length - 1) (gnum l) (by rwa [show l.length - 1 + 1 = l.length by omega])
    omega
  · have hk9 : l.length = 9 ∧ 1 < c := by unfold badAt at hb; omega
    obtain ⟨hk9, hc1⟩ := hk9
    rw [gnum_snoc, hk9, Nat.mod_eq_of_lt hc]
    rw [hk9] at h1
    by_cases ho : c % 2 = 0
    · left
      have e : (gnum l + c * 128 ^ 9) % 18446744073709551616 = gnum l := by
        obtain ⟨d, rfl⟩ : ∃ d, c = 2 * d := ⟨c / 2, by omega⟩
        omega
      rw [e]
      have := uintN_len 8 (gnum l) h1
      omega
    · right
      have e : (gnum l + c * 128 ^ 9) % 18446744073709551616 = gnum (l ++ [1]) := by
        rw [gnum_snoc, hk9]
        obtain ⟨d, rfl⟩ : ∃ d, c = 2 * d + 1 := ⟨c / 2, by omega⟩
        omega
      rw [e]
      exact ⟨1, uintN_gnum l 1 hl (by omega) (.inr (by omega)), by omega⟩

theorem add_val (a c k : Nat) : IntKind.u64.wrap (((a % 18446744073709551616 : Nat) : Int) + IntKind.u64.wrap ((c : Int) % 128 * 2 ^ (7 * k))) = (((a + c % 128 * 128 ^ k) % 18446744073709551616 : Nat) : Int) := by
  rw [IntKind.wrap_u64, IntKind.wrap_u64, show (128 : Nat) ^ k = 2 ^ (7 * k) by rw [Nat.pow_mul]]
  have e : ((c : Int) % 128 * 2 ^ (7 * k)) = ((c % 128 * 2 ^ (7 * k) : Nat) : Int) := by simp
  rw [e]
  omega

def takeR : Option (Nat × Nat) → Value
  | some q => .agg #[.int .u64 q.1, .int .i64 q.2, .bool true]
  | none => .agg #[.int .u64 0, .int .i64 0, .bool false]

set_option maxRecDepth 100000 in
set_option maxHeartbeats 4000000 in
theorem reftake_walk (w : World) (so : Option Addr) (cap : Nat) (bs : List Nat) (h : BS w so bs) :
    Calls Try.prog 10 #[.slice so bs.length cap] w fun e w' => e = .returned (takeR (takeN bs)) ∧ Keeps (fun _ => False) w w' := by
  have K1 : Keeps (fun _ => False) w (w.alloc (.cells #[.int .u64 0, .int .i64 0, .bool false] 28)) := (Keeps.refl _ _).alloc _
  have HB := hidp (h.keep K1)
  have hl := h.2.2
  obtain ⟨rb, hrb⟩ : ∃ rb, rb = w.heap.size := ⟨_, rfl⟩
  obtain ⟨W1, hW1⟩ : ∃ W1, W1 = w.alloc (.cells #[.int .u64 0, .int .i64 0, .bool false] 28) := ⟨_, rfl⟩
  have hr1 : W1.heap[rb]? = some (.cells #[.int .u64 0, .int .i64 0, .bool false] 28 (0, 0)) := by rw [hW1, hrb]; exact heap_alloc_new _ _
  rw [← hW1] at K1 HB
  have HW := hidp (And.intro K1 (And.intro hr1 (show w.heap.size ≤ rb by omega)))
  clear h K1 hr1
  go_enter Try.func10, Try.ntmps10
  go_wp2
  rw [← hW1]
  simp only [← hrb]
  clear hW1 hrb
  go_loopw [3, 4] (fun nv i wr => wr = W1 ∧ ∃ k : Nat, k ≤ bs.length ∧ k ≤ 10 ∧ i = .int .i64 k ∧ nv = .int .u64 ((gnum (bs.take k) % 18446744073709551616 : Nat) : Int) ∧ (∀ x ∈ bs.take k, 128 ≤ x) ∧ tk 0 0 bs = tk k (gnum (bs.take k)) (bs.drop k)) (fun _ i _ => bs.length - (intOf i).toNat)
  case atStart => exact ⟨rfl, 0, Nat.zero_le _, Nat.zero_le _, rfl, rfl, by simp, rfl⟩
  case round =>
    obtain ⟨rfl, k, hk, hk10, rfl, rfl, hge, htk⟩ := hrel
    by_cases hlt : k < bs.length ∧ k < 10
    · obtain ⟨hkl, hk9⟩ := hlt
      have hlen : (bs.take k).length = k := by simp; omega
      have hll : ∀ x ∈ bs.take k, 128 ≤ x ∧ x < 256 := fun x hx => ⟨hge x hx, HB.out.2.1 x (List.mem_of_mem_take hx)⟩
      have hsnoc : bs.take (k + 1) = bs.take k ++ [bs[k]] := List.take_succ_eq_append_getElem hkl
      obtain ⟨b, off, rfl, hc⟩ := HB.out.1 k hkl
      have hb := HB.out.2.1 bs[k] (List.getElem_mem hkl)
      rw [List.drop_eq_getElem_cons hkl, tk, if_neg (by omega)] at htk
      obtain ⟨c, hce⟩ : ∃ c, c = bs[k] := ⟨_, rfl⟩
      obtain ⟨l, hle⟩ : ∃ l, l = bs.take k := ⟨_, rfl⟩
      rw [← hce] at hc hb htk hsnoc
      rw [← hle] at htk hsnoc hll hlen ⊢
      have ha := gnum_lt l
      rw [hlen] at ha
      have hadd := add_val (gnum l) c k
      have hval : gnum (l ++ [c]) = gnum l + c % 128 * 128 ^ k := by rw [gnum_snoc, hlen]
      rw [← hval] at hadd htk
      obtain ⟨r, hr⟩ : ∃ r, r = gnum l % 18446744073709551616 := ⟨_, rfl⟩
      obtain ⟨r2, hr2⟩ : ∃ r2, r2 = gnum (l ++ [c]) % 18446744073709551616 := ⟨_, rfl⟩
      rw [← hr, ← hr2] at hadd
      rw [← hr]
      have hr64 : r2 < 18446744073709551616 := by omega
      have HT := hidp (And.intro htk (And.intro hlen (And.intro hll (And.intro hsnoc hr2))))
      have t1 : decide (k < bs.length) = true := by simpa using hkl
      have t1' : decide ((k : Int) < 10) = true := by simp; omega
      have t2 : ((k : Int) < bs.length) := by omega
      have hw : IntKind.i64.wrap ((k : Int) + 1) = k + 1 := IntWalk.i64_in _ (by omega)
      have hw7 : IntKind.i64.wrap (7 * (k : Int)) = 7 * k := IntWalk.i64_in _ (by omega)
      have hand : bits .and .u8 (c : Int) 127 = ((c % 128 : Nat) : Int) := by
        have := u8_and_nat c 127 hb (by omega)
        rwa [show (c &&& 127) = c % 128 from Nat.and_two_pow_sub_one_eq_mod c 7] at this
      clear hce htk ha hr hr2 hle hval hlen hll hsnoc hge
      by_cases hc128 : 128 ≤ c
      · have t3 : decide (c < 128) = false := by simp; omega
        have t3' : decide ((c : Int) < 128) = false := by simp; omega
        go_wp2
        refine ⟨⟨trivial, k + 1, by omega, by omega, by simp, ?_, ?_, ?_⟩, by simp [intOf]; omega⟩
        · rw [HT.out.2.2.2.1, HT.out.2.2.2.2]
        · rw [HT.out.2.2.2.1]
          intro x hx
          rcases List.mem_append.1 hx with hx | hx
          · exact (HT.out.2.2.1 x hx).1
          · simp at hx; omega
        · rw [HT.out.2.2.2.1, HT.out.1, if_pos hc128]
      · have t3 : decide (c < 128) = true := by simp; omega
        have t3' : decide ((c : Int) < 128) = true := by simp; omega
        go_wp2_with fail
        refine (refuint_walk wr r2 hr64).mono ?_
        rintro e W2 ⟨⟨oa, oc, rfl, hown⟩, K2⟩
        have hcc := K2.cell hc (by simp)
        have hrr := (K2.block rb (Array.getElem?_eq_some_iff.1 HW.out.2.1).1 (by simp)).trans HW.out.2.1
        have HK2 := hidp (HW.out.1.trans K2)
        have hq1 := uintN_pos r2
        obtain ⟨g, rfl⟩ : ∃ g, oa = some ⟨g, 0, none⟩ := by
          obtain ⟨ao, cp, h1, h2⟩ := slice_of hown
          obtain ⟨g, h3, -⟩ := h2 hq1
          exact ⟨g, by have := h1; simp at this; rw [this.1, h3]⟩
        have hu : ∀ i (h : i < (uintN r2).length), W2.cell? ⟨g, i, none⟩ = some (.int .u8 (uintN r2)[i]) := by
          intro i hi
          rw [hown.cellAt i (by omega)]
          simp [byts, hi]
        have z0 := cells_at hrr 0
        have z1 := cells_at hrr 1
        have z2 := cells_at hrr 2
        have g0 := free_at hrr 0
        have g1 := free_at hrr 1
        have g2 := free_at hrr 2
        simp only [List.getElem?_toArray, List.getElem?_cons_zero, List.getElem?_cons_succ] at z0 z1 z2
        clear hc hrr hown K2 hadd hand hw7 t1 t1' t3 t3'
        by_cases hbad : badAt k c
        · have hres : takeN bs = none := by unfold takeN; rw [HT.out.1, if_neg hc128, if_pos (show (k = 9 ∧ 1 < c) ∨ (0 < k ∧ c = 0) from hbad)]
          have HRES := hidp hres
          have hb2 := ref_bad l c HT.out.2.2.1 (by omega) (by rw [HT.out.2.1]; omega) (by rw [HT.out.2.1]; exact hbad)
          rw [← HT.out.2.2.2.2, HT.out.2.1] at hb2
          have hb3 : (((uintN r2).length : Int) != (k : Int) + 1) = true ∨ ((((uintN r2).length : Int) != (k : Int) + 1) = false ∧ ∃ d : Nat, W2.cell? ⟨g, k, none⟩ = some (.int .u8 d) ∧ ((d : Int) != (c : Int)) = true ∧ (k : Int) < (uintN r2).length) := by
            rcases hb2 with h1 | ⟨d, h1, h2⟩
            · left; simp; omega
            · right
              have hlen : (uintN r2).length = k + 1 := by rw [h1]; simp [HT.out.2.1]
              refine ⟨by simp [hlen], d, ?_, by simp; omega, by omega⟩
              rw [hu k (by omega)]
              congr 3
              have : (uintN r2)[k]? = some d := by rw [h1, List.getElem?_append_right (by rw [HT.out.2.1]; omega), HT.out.2.1]; simp
              rw [List.getElem?_eq_getElem (by omega)] at this
              simpa using this
          obtain ⟨q, hq⟩ : ∃ q, q = (uintN r2).length := ⟨_, rfl⟩
          rw [← hq] at hb3 hq1 ⊢
          clear hbad hres hb2 hu hq
          rcases hb3 with u1 | ⟨u1, d, u2, u3, u4⟩
          all_goals
            go_wp2_with fail
            go_quiet (fail)
            go_wp2
            exact bodyPost_ret (v := .agg #[.int .u64 0, .int .i64 0, .bool false]) (by simp [results, Try.results10, go_sem, z0, z1, z2]) rfl ⟨by rw [HRES.out]; rfl, (((keeps_drewN HK2.out nq).setCell (.inr HW.out.2.2) _).setCell (.inr HW.out.2.2) _).setCell (.inr HW.out.2.2) _⟩
        · have hg := ref_good l c HT.out.2.2.1 (by omega) (by rw [HT.out.2.1]; omega) (by rw [HT.out.2.1]; exact hbad)
          have hr3 : r2 = gnum (l ++ [c]) := by rw [HT.out.2.2.2.2, hg.1]
          have hres : takeN bs = some (r2, k + 1) := by unfold takeN; rw [HT.out.1, if_neg hc128, if_neg (show ¬ ((k = 9 ∧ 1 < c) ∨ (0 < k ∧ c = 0)) from hbad), hr3]
          have HRES := hidp hres
          have h1 : uintN r2 = l ++ [c] := by rw [hr3]; exact hg.2
          have hlen : (uintN r2).length = k + 1 := by rw [h1]; simp [HT.out.2.1]
          have u2 : W2.cell? ⟨g, k, none⟩ = some (.int .u8 c) := by
            rw [hu k (by omega)]
            congr 3
            have : (uintN r2)[k]? = some c := by rw [h1, List.getElem?_append_right (by rw [HT.out.2.1]; omega), HT.out.2.1]; simp
            rw [List.getElem?_eq_getElem (by omega)] at this
            simpa using this
          have u1 : (((uintN r2).length : Int) != (k : Int) + 1) = false := by simp [hlen]
          have u4 : (k : Int) < (uintN r2).length := by omega
          have u3 : ((c : Int) != (c : Int)) = false := by simp
          obtain ⟨q, hq⟩ : ∃ q, q = (uintN r2).length := ⟨_, rfl⟩
          rw [← hq] at u1 u4 hq1 ⊢
          clear hbad hres hg hr3 h1 hlen hu hq
          go_wp2_with fail
          go_quiet (fail)
          go_wp2
          exact bodyPost_ret (v := .agg #[.int .u64 r2, .int .i64 ((k : Int) + 1), .bool true]) (by simp [results, Try.results10, go_sem, z0, z1, z2]) rfl ⟨by rw [HRES.out]; simp [takeR], (((keeps_drewN HK2.out nq).setCell (.inr HW.out.2.2) _).setCell (.inr HW.out.2.2) _).setCell (.inr HW.out.2.2) _⟩
    · have hres : takeN bs = none := by
        unfold takeN
        rw [htk]
        by_cases h : k < bs.length
        · obtain rfl : k = 10 := by omega
          exact tk_ten _ _
        · rw [List.drop_eq_nil_of_le (by omega)]; exact tk_end _ _
      have HRES := hidp hres
      have z0 := cells_at HW.out.2.1 0
      have z1 := cells_at HW.out.2.1 1
      have z2 := cells_at HW.out.2.1 2
      have g0 := free_at HW.out.2.1 0
      have g1 := free_at HW.out.2.1 1
      have g2 := free_at HW.out.2.1 2
      simp only [List.getElem?_toArray, List.getElem?_cons_zero, List.getElem?_cons_succ] at z0 z1 z2
      have hend : (decide (k < bs.length) = false) ∨ (decide (k < bs.length) = true ∧ decide ((k : Int) < 10) = false) := by
        by_cases h : k < bs.length
        · exact .inr ⟨by simpa using h, by simp; omega⟩
        · exact .inl (by simpa using h)
      clear hres htk hge hlt hk hk10
      rcases hend with t1 | ⟨t1, t1'⟩
      all_goals
        go_wp2
        exact bodyPost_ret (v := .agg #[.int .u64 0, .int .i64 0, .bool false]) (by simp [results, Try.results10, go_sem, z0, z1, z2]) rfl ⟨by rw [HRES.out]; rfl, ((HW.out.1.setCell (.inr HW.out.2.2) _).setCell (.inr HW.out.2.2) _).setCell (.inr HW.out.2.2) _⟩
end Go.Proofs.Ytgebjmcdebdbmaa
