/- PackNumbers: the walk. -/
import Derived.Test.YtgebjmcdebdbmaaAwake
namespace Go.Proofs.Ytgebjmcdebdbmaa
open Go.RowKit Go.Pairs

set_option maxRecDepth 100000 in
set_option maxHeartbeats 4000000 in
theorem numbers_yes (w : World) (n : Nat) (hn : n < 18446744073709551616) (so : Option Addr) (cap : Nat) (bs : List Nat) (h : BS w so bs) :
    Calls Try.prog 3 #[.int .u64 n, .slice so bs.length cap] w fun e w' => e = .returned (.bool true) ∧ Keeps (fun _ => False) w w' := by
  have HB := hidp h
  clear h
  go_enter Try.func3, Try.ntmps3
  by_cases hl : 1000 < bs.length
  · have t1 : decide (1000 < bs.length) = true := by simpa using hl
    have t1' : decide ((1000 : Int) < bs.length) = true := by simp; omega
    go_wp2_with fail
    refine (awake_any w).mono ?_
    rintro e W1 ⟨rfl, K1⟩
    have HK := hidp K1
    clear K1
    go_wp2_with fail
    go_ret
    exact ⟨rfl, HK.out⟩
  have t1 : decide (1000 < bs.length) = false := by simpa using hl
  have t1' : decide ((1000 : Int) < bs.length) = false := by simp; omega
  go_wp2_with fail
  refine (take_walk w so cap bs HB.out).mono ?_
  rintro e W1 ⟨rfl, rfl⟩
  have CR := reftake_walk W1 so cap bs HB.out
  obtain ⟨tn, htn⟩ : ∃ tn, tn = takeN bs := ⟨_, rfl⟩
  rw [← htn] at CR ⊢
  have HCR := hidp CR
  clear CR htn
  cases tn with
  | none =>
    simp only [takeV]
    go_wp2_with fail
    refine HCR.out.mono ?_
    rintro e W2 ⟨rfl, K2⟩
    simp only [takeR]
    obtain ⟨rb, hrb⟩ : ∃ rb, rb = W2.heap.size := ⟨_, rfl⟩
    obtain ⟨W3, hW3⟩ : ∃ W3, W3 = W2.alloc (.cells #[.int .u64 0, .int .i64 0, .bool false] 28) := ⟨_, rfl⟩
    have hr3 : W3.heap[rb]? = some (.cells #[.int .u64 0, .int .i64 0, .bool false] 28 (0, 0)) := by rw [hW3, hrb]; exact heap_alloc_new _ _
    have K3 : Keeps (fun _ => False) W1 W3 := K2.trans (hW3 ▸ (Keeps.refl _ _).alloc _)
    have HW3 := hidp (And.intro K3 hr3)
    clear K2 K3 hr3 HCR
    go_upto_region 5 with (fail)
    rw [← hW3]
    simp only [← hrb]
    clear hW3 hrb
    go_wp2_with fail
    refine (uint_walk W3 n hn).mono ?_
    rintro e W4 ⟨⟨ua, uc, rfl, hu, -⟩, K4⟩
    have HU := hidp (And.intro hu K4)
    clear hu K4
    go_wp2_with fail
    refine (refuint_walk W4 n hn).mono ?_
    rintro e W5 ⟨⟨va, vc, rfl, hv⟩, K5⟩
    have hlu := uintN_len10 hn
    have CS := hidp (same_walk W5 ua va uc vc (uintN n) (uintN n) (HU.out.1.keep K5) (bs_own hv (uintN_lt n) (by omega)))
    have hr5 := ((HU.out.2.trans K5).block rb (Array.getElem?_eq_some_iff.1 HW3.out.2).1 (by simp)).trans HW3.out.2
    have z0 := cells_at hr5 0
    have z1 := cells_at hr5 1
    have z2 := cells_at hr5 2
    simp only [List.getElem?_toArray, List.getElem?_cons_zero, List.getElem?_cons_succ] at z0 z1 z2
    have K15 := (HW3.out.1.trans HU.out.2).trans K5
    have CT := hidp (sum_walk W5 so cap bs (HB.out.keep K15))
    have CT2 := hidp (refsum_walk W5 so cap bs (HB.out.keep K15))
    have HK := hidp K15
    obtain ⟨un, hun⟩ : ∃ un, un = uintN n := ⟨_, rfl⟩
    rw [← hun] at CS ⊢
    clear hv K5 hr5 K15 HU HW3 hun hlu
    go_wp2_with fail
    refine CS.out.mono ?_
    rintro e W6 ⟨rfl, rfl⟩
    have e1 : decide True = true := rfl
    try rw [e1]
    clear e1 CS
    obtain ⟨sm, hsm⟩ : ∃ sm, sm = sumN bs := ⟨_, rfl⟩
    rw [← hsm] at CT CT2
    clear hsm
    go_wp2_with fail
    refine CT.out.mono ?_
    rintro e W7 ⟨rfl, rfl⟩
    go_wp2_with fail
    refine CT2.out.mono ?_
    rintro e W8 ⟨rfl, rfl⟩
    go_wp2_with fail
    refine (awake_any W8).mono ?_
    rintro e W9 ⟨rfl, K9⟩
    have HF := hidp (HK.out.trans K9)
    clear K9
    go_wp2_with fail
    go_ret
    exact ⟨rfl, HF.out⟩
  | some q =>
    simp only [takeV]
    go_wp2_with fail
    refine HCR.out.mono ?_
    rintro e W2 ⟨rfl, K2⟩
    simp only [takeR]
    obtain ⟨rb, hrb⟩ : ∃ rb, rb = W2.heap.size := ⟨_, rfl⟩
    obtain ⟨W3, hW3⟩ : ∃ W3, W3 = W2.alloc (.cells #[.int .u64 q.1, .int .i64 q.2, .bool true] 28) := ⟨_, rfl⟩
    have hr3 : W3.heap[rb]? = some (.cells #[.int .u64 q.1, .int .i64 q.2, .bool true] 28 (0, 0)) := by rw [hW3, hrb]; exact heap_alloc_new _ _
    have K3 : Keeps (fun _ => False) W1 W3 := K2.trans (hW3 ▸ (Keeps.refl _ _).alloc _)
    have HW3 := hidp (And.intro K3 hr3)
    clear K2 K3 hr3 HCR
    go_upto_region 5 with (fail)
    rw [← hW3]
    simp only [← hrb]
    clear hW3 hrb
    go_wp2_with fail
    refine (uint_walk W3 n hn).mono ?_
    rintro e W4 ⟨⟨ua, uc, rfl, hu, -⟩, K4⟩
    have HU := hidp (And.intro hu K4)
    clear hu K4
    go_wp2_with fail
    refine (refuint_walk W4 n hn).mono ?_
    rintro e W5 ⟨⟨va, vc, rfl, hv⟩, K5⟩
    have hlu := uintN_len10 hn
    have CS := hidp (same_walk W5 ua va uc vc (uintN n) (uintN n) (HU.out.1.keep K5) (bs_own hv (uintN_lt n) (by omega)))
    have hr5 := ((HU.out.2.trans K5).block rb (Array.getElem?_eq_some_iff.1 HW3.out.2).1 (by simp)).trans HW3.out.2
    have z0 := cells_at hr5 0
    have z1 := cells_at hr5 1
    have z2 := cells_at hr5 2
    simp only [List.getElem?_toArray, List.getElem?_cons_zero, List.getElem?_cons_succ] at z0 z1 z2
    have K15 := (HW3.out.1.trans HU.out.2).trans K5
    have CT := hidp (sum_walk W5 so cap bs (HB.out.keep K15))
    have CT2 := hidp (refsum_walk W5 so cap bs (HB.out.keep K15))
    have HK := hidp K15
    obtain ⟨un, hun⟩ : ∃ un, un = uintN n := ⟨_, rfl⟩
    rw [← hun] at CS ⊢
    clear hv K5 hr5 K15 HU HW3 hun hlu
    go_wp2_with fail
    refine CS.out.mono ?_
    rintro e W6 ⟨rfl, rfl⟩
    have e1 : decide True = true := rfl
    try rw [e1]
    clear e1 CS
    obtain ⟨sm, hsm⟩ : ∃ sm, sm = sumN bs := ⟨_, rfl⟩
    rw [← hsm] at CT CT2
    clear hsm
    go_wp2_with fail
    refine CT.out.mono ?_
    rintro e W7 ⟨rfl, rfl⟩
    go_wp2_with fail
    refine CT2.out.mono ?_
    rintro e W8 ⟨rfl, rfl⟩
    go_wp2_with fail
    refine (awake_any W8).mono ?_
    rintro e W9 ⟨rfl, K9⟩
    have HF := hidp (HK.out.trans K9)
    clear K9
    go_wp2_with fail
    go_ret
    exact ⟨rfl, HF.out⟩
end Go.Proofs.Ytgebjmcdebdbmaa
