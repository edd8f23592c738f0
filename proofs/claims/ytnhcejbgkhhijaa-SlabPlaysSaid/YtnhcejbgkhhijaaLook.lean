/- The slab's methods that look: cell, Get; at ints and at strings. -/
import Derived.Test.YtnhcejbgkhhijaaCell
namespace Go.Proofs.Ytnhcejbgkhhijaa
open Go.RowKit Go.Pairs

/-- what a handle points at. -/
def Hit (L : List Cl) (s n : Int) (i : Nat) : Prop := ∃ hi : i < L.length, s = i ∧ L[i].has = true ∧ (L[i].gen : Int) = n

theorem row_len {e : TypeId} {w : World} {c : Nat} {L : List Cl} {v : Value} {g : Option Nat} (h : Row e w c L v g) : ∃ a cap, v = .slice a L.length cap := by
  cases h with
  | none_ h => exact ⟨none, 0, by simp [h]⟩
  | row k cap => exact ⟨_, _, rfl⟩


theorem cellnoa_i {w : World} {c : Nat} {v : Value} {g : Option Nat} {L : List Cl} {low : Nat} (h : SL_i w c v g L low) (s n : Int) (hs : s < 0) :
    Calls Try.prog 22 #[.pointer (some ⟨c, 0, none⟩), .agg #[.int .i64 s, .int .i64 n]] w fun e w' => e = .returned (.pointer none) ∧ Keeps (fun _ => False) w w' := by
  have K0 := (Keeps.refl (fun _ => False) w).alloc (.cells #[.int .i64 s, .int .i64 n] 27)
  have a0 : (w.alloc (.cells #[.int .i64 s, .int .i64 n] 27)).cell? ⟨w.heap.size, 0, none⟩ = some (.int .i64 s) := cells_at (heap_alloc_new w _) 0
  have a1 : (w.alloc (.cells #[.int .i64 s, .int .i64 n] 27)).cell? ⟨w.heap.size, 1, none⟩ = some (.int .i64 n) := cells_at (heap_alloc_new w _) 1
  have c0 : w.cell? ⟨c, 0, none⟩ = some v := cells_at h.cell 0
  have b0 := K0.cell c0 (by simp)
  have t1 : decide (s < 0) = true := by simp [hs]
  obtain ⟨W1, hW1⟩ : ∃ W1, W1 = w.alloc (.cells #[.int .i64 s, .int .i64 n] 27) := ⟨_, rfl⟩
  rw [← hW1] at K0 a0 a1 b0
  have HK := hidp K0
  clear h c0 b0 K0 hs
  go_enter Try.func22, Try.ntmps22
  go_wp2
  rw [← hW1]
  clear hW1
  go_quiet (fail)
  go_wp2
  go_ret
  exact ⟨rfl, keeps_drewN HK.out _⟩

theorem cellnob_i {w : World} {c : Nat} {v : Value} {g : Option Nat} {L : List Cl} {low : Nat} (h : SL_i w c v g L low) (i : Nat) (n : Int) (hi : ¬ i < L.length) :
    Calls Try.prog 22 #[.pointer (some ⟨c, 0, none⟩), .agg #[.int .i64 i, .int .i64 n]] w fun e w' => e = .returned (.pointer none) ∧ Keeps (fun _ => False) w w' := by
  have K0 := (Keeps.refl (fun _ => False) w).alloc (.cells #[.int .i64 i, .int .i64 n] 27)
  have a0 : (w.alloc (.cells #[.int .i64 i, .int .i64 n] 27)).cell? ⟨w.heap.size, 0, none⟩ = some (.int .i64 i) := cells_at (heap_alloc_new w _) 0
  have a1 : (w.alloc (.cells #[.int .i64 i, .int .i64 n] 27)).cell? ⟨w.heap.size, 1, none⟩ = some (.int .i64 n) := cells_at (heap_alloc_new w _) 1
  have c0 : w.cell? ⟨c, 0, none⟩ = some v := cells_at h.cell 0
  have b0 := K0.cell c0 (by simp)
  obtain ⟨a, cap, rfl⟩ := row_len h.row
  have t1 : decide ((i : Int) < 0) = false := by simp
  have t3 : decide (L.length ≤ i) = true := by simp; omega
  obtain ⟨W1, hW1⟩ : ∃ W1, W1 = w.alloc (.cells #[.int .i64 i, .int .i64 n] 27) := ⟨_, rfl⟩
  rw [← hW1] at K0 a0 a1 b0
  have HK := hidp K0
  clear h c0 K0 hi
  go_enter Try.func22, Try.ntmps22
  go_wp2
  rw [← hW1]
  clear hW1
  go_quiet (fail)
  go_wp2
  go_ret
  exact ⟨rfl, keeps_drewN HK.out _⟩

theorem cellnoc_i {w : World} {c : Nat} {v : Value} {g : Option Nat} {L : List Cl} {low : Nat} (h : SL_i w c v g L low) (i : Nat) (n : Int) (hi : i < L.length) (hh : ¬ L[i].has = true) :
    Calls Try.prog 22 #[.pointer (some ⟨c, 0, none⟩), .agg #[.int .i64 i, .int .i64 n]] w fun e w' => e = .returned (.pointer none) ∧ Keeps (fun _ => False) w w' := by
  have K0 := (Keeps.refl (fun _ => False) w).alloc (.cells #[.int .i64 i, .int .i64 n] 27)
  have a0 : (w.alloc (.cells #[.int .i64 i, .int .i64 n] 27)).cell? ⟨w.heap.size, 0, none⟩ = some (.int .i64 i) := cells_at (heap_alloc_new w _) 0
  have a1 : (w.alloc (.cells #[.int .i64 i, .int .i64 n] 27)).cell? ⟨w.heap.size, 1, none⟩ = some (.int .i64 n) := cells_at (heap_alloc_new w _) 1
  have c0 : w.cell? ⟨c, 0, none⟩ = some v := cells_at h.cell 0
  have b0 := K0.cell c0 (by simp)
  obtain ⟨k, cap, rfl, rfl, hc1, hc2, r0, r1, r2⟩ := row_read h.row hi
  have b1 := K0.cell r0 (by simp)
  have b2 := K0.cell r1 (by simp)
  have t1 : decide ((i : Int) < 0) = false := by simp
  have t2 : ((i : Int) < L.length) := by omega
  have t3 : decide (L.length ≤ i) = false := by simp; omega
  rw [show L[i].has = false by simpa using hh] at b2
  obtain ⟨W1, hW1⟩ : ∃ W1, W1 = w.alloc (.cells #[.int .i64 i, .int .i64 n] 27) := ⟨_, rfl⟩
  rw [← hW1] at K0 a0 a1 b0 b1 b2
  have HK := hidp K0
  clear h r0 r1 r2 c0 K0 hh b1
  go_enter Try.func22, Try.ntmps22
  go_wp2
  rw [← hW1]
  clear hW1
  go_quiet (fail)
  go_wp2
  go_ret
  exact ⟨rfl, keeps_drewN HK.out _⟩

theorem cellnod_i {w : World} {c : Nat} {v : Value} {g : Option Nat} {L : List Cl} {low : Nat} (h : SL_i w c v g L low) (i : Nat) (n : Int) (hi : i < L.length) (hh : L[i].has = true) (hg : ¬ (L[i].gen : Int) = n) :
    Calls Try.prog 22 #[.pointer (some ⟨c, 0, none⟩), .agg #[.int .i64 i, .int .i64 n]] w fun e w' => e = .returned (.pointer none) ∧ Keeps (fun _ => False) w w' := by
  have K0 := (Keeps.refl (fun _ => False) w).alloc (.cells #[.int .i64 i, .int .i64 n] 27)
  have a0 : (w.alloc (.cells #[.int .i64 i, .int .i64 n] 27)).cell? ⟨w.heap.size, 0, none⟩ = some (.int .i64 i) := cells_at (heap_alloc_new w _) 0
  have a1 : (w.alloc (.cells #[.int .i64 i, .int .i64 n] 27)).cell? ⟨w.heap.size, 1, none⟩ = some (.int .i64 n) := cells_at (heap_alloc_new w _) 1
  have c0 : w.cell? ⟨c, 0, none⟩ = some v := cells_at h.cell 0
  have b0 := K0.cell c0 (by simp)
  obtain ⟨k, cap, rfl, rfl, hc1, hc2, r0, r1, r2⟩ := row_read h.row hi
  have b1 := K0.cell r0 (by simp)
  have b2 := K0.cell r1 (by simp)
  have t1 : decide ((i : Int) < 0) = false := by simp
  have t2 : ((i : Int) < L.length) := by omega
  have t3 : decide (L.length ≤ i) = false := by simp; omega
  rw [hh] at b2
  obtain ⟨G, hG⟩ : ∃ G : Int, G = L[i].gen := ⟨_, rfl⟩
  rw [← hG] at b1 hg
  have t4 : (G != n) = true := by simpa using hg
  obtain ⟨W1, hW1⟩ : ∃ W1, W1 = w.alloc (.cells #[.int .i64 i, .int .i64 n] 27) := ⟨_, rfl⟩
  rw [← hW1] at K0 a0 a1 b0 b1 b2
  have HK := hidp K0
  clear h r0 r1 r2 c0 K0 hh hG
  go_enter Try.func22, Try.ntmps22
  go_wp2
  rw [← hW1]
  clear hW1
  go_quiet (fail)
  go_wp2
  go_ret
  exact ⟨rfl, keeps_drewN HK.out _⟩

theorem cellno_i {w : World} {c : Nat} {v : Value} {g : Option Nat} {L : List Cl} {low : Nat} (h : SL_i w c v g L low) (s n : Int) (hno : ∀ i, ¬ Hit L s n i) :
    Calls Try.prog 22 #[.pointer (some ⟨c, 0, none⟩), .agg #[.int .i64 s, .int .i64 n]] w fun e w' => e = .returned (.pointer none) ∧ Keeps (fun _ => False) w w' := by
  by_cases hs : s < 0
  · exact cellnoa_i h s n hs
  obtain ⟨i, rfl⟩ := Int.eq_ofNat_of_zero_le (show 0 ≤ s by omega)
  by_cases hi : i < L.length
  · by_cases hh : L[i].has = true
    · exact cellnod_i h i n hi hh fun e => hno i ⟨hi, rfl, hh, e⟩
    · exact cellnoc_i h i n hi hh
  · exact cellnob_i h i n hi

theorem getyes_i {w : World} {c : Nat} {v : Value} {g : Option Nat} {L : List Cl} {low : Nat} (h : SL_i w c v g L low) (s n : Int) (i : Nat) (hi : i < L.length) (hit : Hit L s n i) :
    Calls Try.prog 10 #[.pointer (some ⟨c, 0, none⟩), .agg #[.int .i64 s, .int .i64 n]] w fun e w' => e = .returned (.tuple #[L[i].x, .bool true]) ∧ Keeps (fun _ => False) w w' := by
  obtain ⟨_, hs, hh, hn⟩ := hit
  have K0 := (Keeps.refl (fun _ => False) w).alloc (.cells #[.int .i64 s, .int .i64 n] 27)
  have h0 := h.keep K0 (by simp) (by simp)
  obtain ⟨k, cap, rfl, rfl, hc1, hc2, r0, r1, r2⟩ := row_read h.row hi
  obtain ⟨X, hX⟩ : ∃ X, X = L[i].x := ⟨_, rfl⟩
  rw [← hX] at r2 ⊢
  have HC := hidp (cellyes_i h0 s n i hs hi hh hn)
  have HK := hidp K0
  have HR := hidp r2
  clear h h0 K0 r0 r1 r2 hs hh hn hc1 hc2 hX
  go_enter Try.func10, Try.ntmps10
  go_wp2_with fail
  refine HC.out.mono ?_
  rintro e W2 ⟨⟨k', hk', rfl⟩, K2⟩
  obtain rfl : k = k' := by simpa using hk'
  have K3 := HK.out.trans K2
  have r2 := K3.cell HR.out (by simp)
  have HK3 := hidp K3
  clear K2 K3 HK HR HC hk'
  go_wp2
  go_ret2
  exact ⟨rfl, HK3.out⟩

theorem getno_i {w : World} {c : Nat} {v : Value} {g : Option Nat} {L : List Cl} {low : Nat} (h : SL_i w c v g L low) (s n : Int) (hno : ∀ i, ¬ Hit L s n i) :
    Calls Try.prog 10 #[.pointer (some ⟨c, 0, none⟩), .agg #[.int .i64 s, .int .i64 n]] w fun e w' => e = .returned (.tuple #[.int .i64 0, .bool false]) ∧ Keeps (fun _ => False) w w' := by
  have K0 := (Keeps.refl (fun _ => False) w).alloc (.cells #[.int .i64 s, .int .i64 n] 27)
  have h0 := h.keep K0 (by simp) (by simp)
  have HC := hidp (cellno_i h0 s n hno)
  have HK := hidp K0
  clear h h0 K0 hno
  go_enter Try.func10, Try.ntmps10
  go_wp2_with fail
  refine HC.out.mono ?_
  rintro e W2 ⟨rfl, K2⟩
  have HK3 := hidp (HK.out.trans K2)
  clear K2 HK HC
  go_wp2
  go_ret2
  exact ⟨rfl, HK3.out⟩

theorem dropno_i {w : World} {c : Nat} {v : Value} {g : Option Nat} {L : List Cl} {low : Nat} (h : SL_i w c v g L low) (s n : Int) (hno : ∀ i, ¬ Hit L s n i) :
    Calls Try.prog 9 #[.pointer (some ⟨c, 0, none⟩), .agg #[.int .i64 s, .int .i64 n]] w fun e w' => e = .returned (.tuple #[.int .i64 0, .bool false]) ∧ Keeps (fun _ => False) w w' := by
  have K0 := (Keeps.refl (fun _ => False) w).alloc (.cells #[.int .i64 s, .int .i64 n] 27)
  have h0 := h.keep K0 (by simp) (by simp)
  have HC := hidp (cellno_i h0 s n hno)
  have HK := hidp K0
  clear h h0 K0 hno
  go_enter Try.func9, Try.ntmps9
  go_wp2_with fail
  refine HC.out.mono ?_
  rintro e W2 ⟨rfl, K2⟩
  have HK3 := hidp (HK.out.trans K2)
  clear K2 HK HC
  go_wp2
  go_ret2
  exact ⟨rfl, HK3.out⟩

theorem cellnoa_s {w : World} {c : Nat} {v : Value} {g : Option Nat} {L : List Cl} {low : Nat} (h : SL_s w c v g L low) (s n : Int) (hs : s < 0) :
    Calls Try.prog 30 #[.pointer (some ⟨c, 0, none⟩), .agg #[.int .i64 s, .int .i64 n]] w fun e w' => e = .returned (.pointer none) ∧ Keeps (fun _ => False) w w' := by
  have K0 := (Keeps.refl (fun _ => False) w).alloc (.cells #[.int .i64 s, .int .i64 n] 27)
  have a0 : (w.alloc (.cells #[.int .i64 s, .int .i64 n] 27)).cell? ⟨w.heap.size, 0, none⟩ = some (.int .i64 s) := cells_at (heap_alloc_new w _) 0
  have a1 : (w.alloc (.cells #[.int .i64 s, .int .i64 n] 27)).cell? ⟨w.heap.size, 1, none⟩ = some (.int .i64 n) := cells_at (heap_alloc_new w _) 1
  have c0 : w.cell? ⟨c, 0, none⟩ = some v := cells_at h.cell 0
  have b0 := K0.cell c0 (by simp)
  have t1 : decide (s < 0) = true := by simp [hs]
  obtain ⟨W1, hW1⟩ : ∃ W1, W1 = w.alloc (.cells #[.int .i64 s, .int .i64 n] 27) := ⟨_, rfl⟩
  rw [← hW1] at K0 a0 a1 b0
  have HK := hidp K0
  clear h c0 b0 K0 hs
  go_enter Try.func30, Try.ntmps30
  go_wp2
  rw [← hW1]
  clear hW1
  go_quiet (fail)
  go_wp2
  go_ret
  exact ⟨rfl, keeps_drewN HK.out _⟩

theorem cellnob_s {w : World} {c : Nat} {v : Value} {g : Option Nat} {L : List Cl} {low : Nat} (h : SL_s w c v g L low) (i : Nat) (n : Int) (hi : ¬ i < L.length) :
    Calls Try.prog 30 #[.pointer (some ⟨c, 0, none⟩), .agg #[.int .i64 i, .int .i64 n]] w fun e w' => e = .returned (.pointer none) ∧ Keeps (fun _ => False) w w' := by
  have K0 := (Keeps.refl (fun _ => False) w).alloc (.cells #[.int .i64 i, .int .i64 n] 27)
  have a0 : (w.alloc (.cells #[.int .i64 i, .int .i64 n] 27)).cell? ⟨w.heap.size, 0, none⟩ = some (.int .i64 i) := cells_at (heap_alloc_new w _) 0
  have a1 : (w.alloc (.cells #[.int .i64 i, .int .i64 n] 27)).cell? ⟨w.heap.size, 1, none⟩ = some (.int .i64 n) := cells_at (heap_alloc_new w _) 1
  have c0 : w.cell? ⟨c, 0, none⟩ = some v := cells_at h.cell 0
  have b0 := K0.cell c0 (by simp)
  obtain ⟨a, cap, rfl⟩ := row_len h.row
  have t1 : decide ((i : Int) < 0) = false := by simp
  have t3 : decide (L.length ≤ i) = true := by simp; omega
  obtain ⟨W1, hW1⟩ : ∃ W1, W1 = w.alloc (.cells #[.int .i64 i, .int .i64 n] 27) := ⟨_, rfl⟩
  rw [← hW1] at K0 a0 a1 b0
  have HK := hidp K0
  clear h c0 K0 hi
  go_enter Try.func30, Try.ntmps30
  go_wp2
  rw [← hW1]
  clear hW1
  go_quiet (fail)
  go_wp2
  go_ret
  exact ⟨rfl, keeps_drewN HK.out _⟩

theorem cellnoc_s {w : World} {c : Nat} {v : Value} {g : Option Nat} {L : List Cl} {low : Nat} (h : SL_s w c v g L low) (i : Nat) (n : Int) (hi : i < L.length) (hh : ¬ L[i].has = true) :
    Calls Try.prog 30 #[.pointer (some ⟨c, 0, none⟩), .agg #[.int .i64 i, .int .i64 n]] w fun e w' => e = .returned (.pointer none) ∧ Keeps (fun _ => False) w w' := by
  have K0 := (Keeps.refl (fun _ => False) w).alloc (.cells #[.int .i64 i, .int .i64 n] 27)
  have a0 : (w.alloc (.cells #[.int .i64 i, .int .i64 n] 27)).cell? ⟨w.heap.size, 0, none⟩ = some (.int .i64 i) := cells_at (heap_alloc_new w _) 0
  have a1 : (w.alloc (.cells #[.int .i64 i, .int .i64 n] 27)).cell? ⟨w.heap.size, 1, none⟩ = some (.int .i64 n) := cells_at (heap_alloc_new w _) 1
  have c0 : w.cell? ⟨c, 0, none⟩ = some v := cells_at h.cell 0
  have b0 := K0.cell c0 (by simp)
  obtain ⟨k, cap, rfl, rfl, hc1, hc2, r0, r1, r2⟩ := row_read h.row hi
  have b1 := K0.cell r0 (by simp)
  have b2 := K0.cell r1 (by simp)
  have t1 : decide ((i : Int) < 0) = false := by simp
  have t2 : ((i : Int) < L.length) := by omega
  have t3 : decide (L.length ≤ i) = false := by simp; omega
  rw [show L[i].has = false by simpa using hh] at b2
  obtain ⟨W1, hW1⟩ : ∃ W1, W1 = w.alloc (.cells #[.int .i64 i, .int .i64 n] 27) := ⟨_, rfl⟩
  rw [← hW1] at K0 a0 a1 b0 b1 b2
  have HK := hidp K0
  clear h r0 r1 r2 c0 K0 hh b1
  go_enter Try.func30, Try.ntmps30
  go_wp2
  rw [← hW1]
  clear hW1
  go_quiet (fail)
  go_wp2
  go_ret
  exact ⟨rfl, keeps_drewN HK.out _⟩

theorem cellnod_s {w : World} {c : Nat} {v : Value} {g : Option Nat} {L : List Cl} {low : Nat} (h : SL_s w c v g L low) (i : Nat) (n : Int) (hi : i < L.length) (hh : L[i].has = true) (hg : ¬ (L[i].gen : Int) = n) :
    Calls Try.prog 30 #[.pointer (some ⟨c, 0, none⟩), .agg #[.int .i64 i, .int .i64 n]] w fun e w' => e = .returned (.pointer none) ∧ Keeps (fun _ => False) w w' := by
  have K0 := (Keeps.refl (fun _ => False) w).alloc (.cells #[.int .i64 i, .int .i64 n] 27)
  have a0 : (w.alloc (.cells #[.int .i64 i, .int .i64 n] 27)).cell? ⟨w.heap.size, 0, none⟩ = some (.int .i64 i) := cells_at (heap_alloc_new w _) 0
  have a1 : (w.alloc (.cells #[.int .i64 i, .int .i64 n] 27)).cell? ⟨w.heap.size, 1, none⟩ = some (.int .i64 n) := cells_at (heap_alloc_new w _) 1
  have c0 : w.cell? ⟨c, 0, none⟩ = some v := cells_at h.cell 0
  have b0 := K0.cell c0 (by simp)
  obtain ⟨k, cap, rfl, rfl, hc1, hc2, r0, r1, r2⟩ := row_read h.row hi
  have b1 := K0.cell r0 (by simp)
  have b2 := K0.cell r1 (by simp)
  have t1 : decide ((i : Int) < 0) = false := by simp
  have t2 : ((i : Int) < L.length) := by omega
  have t3 : decide (L.length ≤ i) = false := by simp; omega
  rw [hh] at b2
  obtain ⟨G, hG⟩ : ∃ G : Int, G = L[i].gen := ⟨_, rfl⟩
  rw [← hG] at b1 hg
  have t4 : (G != n) = true := by simpa using hg
  obtain ⟨W1, hW1⟩ : ∃ W1, W1 = w.alloc (.cells #[.int .i64 i, .int .i64 n] 27) := ⟨_, rfl⟩
  rw [← hW1] at K0 a0 a1 b0 b1 b2
  have HK := hidp K0
  clear h r0 r1 r2 c0 K0 hh hG
  go_enter Try.func30, Try.ntmps30
  go_wp2
  rw [← hW1]
  clear hW1
  go_quiet (fail)
  go_wp2
  go_ret
  exact ⟨rfl, keeps_drewN HK.out _⟩

theorem cellno_s {w : World} {c : Nat} {v : Value} {g : Option Nat} {L : List Cl} {low : Nat} (h : SL_s w c v g L low) (s n : Int) (hno : ∀ i, ¬ Hit L s n i) :
    Calls Try.prog 30 #[.pointer (some ⟨c, 0, none⟩), .agg #[.int .i64 s, .int .i64 n]] w fun e w' => e = .returned (.pointer none) ∧ Keeps (fun _ => False) w w' := by
  by_cases hs : s < 0
  · exact cellnoa_s h s n hs
  obtain ⟨i, rfl⟩ := Int.eq_ofNat_of_zero_le (show 0 ≤ s by omega)
  by_cases hi : i < L.length
  · by_cases hh : L[i].has = true
    · exact cellnod_s h i n hi hh fun e => hno i ⟨hi, rfl, hh, e⟩
    · exact cellnoc_s h i n hi hh
  · exact cellnob_s h i n hi

theorem getyes_s {w : World} {c : Nat} {v : Value} {g : Option Nat} {L : List Cl} {low : Nat} (h : SL_s w c v g L low) (s n : Int) (i : Nat) (hi : i < L.length) (hit : Hit L s n i) :
    Calls Try.prog 26 #[.pointer (some ⟨c, 0, none⟩), .agg #[.int .i64 s, .int .i64 n]] w fun e w' => e = .returned (.tuple #[L[i].x, .bool true]) ∧ Keeps (fun _ => False) w w' := by
  obtain ⟨_, hs, hh, hn⟩ := hit
  have K0 := (Keeps.refl (fun _ => False) w).alloc (.cells #[.int .i64 s, .int .i64 n] 27)
  have h0 := h.keep K0 (by simp) (by simp)
  obtain ⟨k, cap, rfl, rfl, hc1, hc2, r0, r1, r2⟩ := row_read h.row hi
  obtain ⟨X, hX⟩ : ∃ X, X = L[i].x := ⟨_, rfl⟩
  rw [← hX] at r2 ⊢
  have HC := hidp (cellyes_s h0 s n i hs hi hh hn)
  have HK := hidp K0
  have HR := hidp r2
  clear h h0 K0 r0 r1 r2 hs hh hn hc1 hc2 hX
  go_enter Try.func26, Try.ntmps26
  go_wp2_with fail
  refine HC.out.mono ?_
  rintro e W2 ⟨⟨k', hk', rfl⟩, K2⟩
  obtain rfl : k = k' := by simpa using hk'
  have K3 := HK.out.trans K2
  have r2 := K3.cell HR.out (by simp)
  have HK3 := hidp K3
  clear K2 K3 HK HR HC hk'
  go_wp2
  go_ret2
  exact ⟨rfl, HK3.out⟩

theorem getno_s {w : World} {c : Nat} {v : Value} {g : Option Nat} {L : List Cl} {low : Nat} (h : SL_s w c v g L low) (s n : Int) (hno : ∀ i, ¬ Hit L s n i) :
    Calls Try.prog 26 #[.pointer (some ⟨c, 0, none⟩), .agg #[.int .i64 s, .int .i64 n]] w fun e w' => e = .returned (.tuple #[.string ByteArray.empty, .bool false]) ∧ Keeps (fun _ => False) w w' := by
  have K0 := (Keeps.refl (fun _ => False) w).alloc (.cells #[.int .i64 s, .int .i64 n] 27)
  have h0 := h.keep K0 (by simp) (by simp)
  have HC := hidp (cellno_s h0 s n hno)
  have HK := hidp K0
  clear h h0 K0 hno
  go_enter Try.func26, Try.ntmps26
  go_wp2_with fail
  refine HC.out.mono ?_
  rintro e W2 ⟨rfl, K2⟩
  have HK3 := hidp (HK.out.trans K2)
  clear K2 HK HC
  go_wp2
  go_ret2
  exact ⟨rfl, HK3.out⟩

theorem dropno_s {w : World} {c : Nat} {v : Value} {g : Option Nat} {L : List Cl} {low : Nat} (h : SL_s w c v g L low) (s n : Int) (hno : ∀ i, ¬ Hit L s n i) :
    Calls Try.prog 25 #[.pointer (some ⟨c, 0, none⟩), .agg #[.int .i64 s, .int .i64 n]] w fun e w' => e = .returned (.tuple #[.string ByteArray.empty, .bool false]) ∧ Keeps (fun _ => False) w w' := by
  have K0 := (Keeps.refl (fun _ => False) w).alloc (.cells #[.int .i64 s, .int .i64 n] 27)
  have h0 := h.keep K0 (by simp) (by simp)
  have HC := hidp (cellno_s h0 s n hno)
  have HK := hidp K0
  clear h h0 K0 hno
  go_enter Try.func25, Try.ntmps25
  go_wp2_with fail
  refine HC.out.mono ?_
  rintro e W2 ⟨rfl, K2⟩
  have HK3 := hidp (HK.out.trans K2)
  clear K2 HK HC
  go_wp2
  go_ret2
  exact ⟨rfl, HK3.out⟩
end Go.Proofs.Ytnhcejbgkhhijaa
