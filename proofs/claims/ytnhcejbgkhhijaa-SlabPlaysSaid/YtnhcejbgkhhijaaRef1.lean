/- The document's slab: there, Get, Set, Drop. -/
import Derived.Test.YtnhcejbgkhhijaaPut
namespace Go.Proofs.Ytnhcejbgkhhijaa
open Go.RowKit Go.Pairs

/-- block c is the document's slab that holds L, in the row v. -/
structure RF (w : World) (c : Nat) (v : Value) (g : Option Nat) (L : List Cl) : Prop where
  cell : w.heap[c]? = some (.cells #[v] 39 (0, 0))
  row : Row 70 w c L v g
  len : L.length ≤ 1000000
  els : ∀ d ∈ L, ∃ x, d.x = Value.int .i64 x

theorem RF.keep {w w' : World} {c : Nat} {v : Value} {g : Option Nat} {L : List Cl} (h : RF w c v g L) {S : Nat → Prop} (hk : Keeps S w w') (hc : ¬ S c) (hg : ∀ k, g = some k → ¬ S k) : RF w' c v g L :=
  ⟨(hk.block c (Array.getElem?_eq_some_iff.1 h.cell).1 hc).trans h.cell, h.row.keep hk hg, h.len, h.els⟩

/-- what an operation leaves. -/
def DidR (w : World) (c : Nat) (g : Option Nat) (L : List Cl) (w' : World) : Prop :=
  ∃ v' g', RF w' c v' g' L ∧ (g' = g ∨ ∃ k, g' = some k ∧ w.heap.size ≤ k) ∧ Keeps (fun k => k = c ∨ some k = g) w w'

theorem rtherea {w : World} {c : Nat} {v : Value} {g : Option Nat} {L : List Cl} (h : RF w c v g L) (s n : Int) (hs : s < 0) :
    Calls Try.prog 28 #[.pointer (some ⟨c, 0, none⟩), .agg #[.int .i64 s, .int .i64 n]] w fun e w' => e = .returned (.bool false) ∧ Keeps (fun _ => False) w w' := by
  have K0 := (Keeps.refl (fun _ => False) w).alloc (.cells #[.int .i64 s, .int .i64 n] 27)
  have a0 : (w.alloc (.cells #[.int .i64 s, .int .i64 n] 27)).cell? ⟨w.heap.size, 0, none⟩ = some (.int .i64 s) := cells_at (heap_alloc_new w _) 0
  have a1 : (w.alloc (.cells #[.int .i64 s, .int .i64 n] 27)).cell? ⟨w.heap.size, 1, none⟩ = some (.int .i64 n) := cells_at (heap_alloc_new w _) 1
  have c0 : w.cell? ⟨c, 0, none⟩ = some v := cells_at h.cell 0
  have b0 := K0.cell c0 (by simp)
  have t1 : decide (0 ≤ s) = false := by simp; omega
  obtain ⟨W1, hW1⟩ : ∃ W1, W1 = w.alloc (.cells #[.int .i64 s, .int .i64 n] 27) := ⟨_, rfl⟩
  rw [← hW1] at K0 a0 a1 b0
  have HK := hidp K0
  clear h c0 b0 K0 hs
  go_enter Try.func28, Try.ntmps28
  go_wp2
  rw [← hW1]
  clear hW1
  go_quiet (fail)
  go_wp2
  go_ret
  exact ⟨rfl, keeps_drewN HK.out _⟩

theorem rthereb {w : World} {c : Nat} {v : Value} {g : Option Nat} {L : List Cl} (h : RF w c v g L) (i : Nat) (n : Int) (hi : ¬ i < L.length) :
    Calls Try.prog 28 #[.pointer (some ⟨c, 0, none⟩), .agg #[.int .i64 i, .int .i64 n]] w fun e w' => e = .returned (.bool false) ∧ Keeps (fun _ => False) w w' := by
  have K0 := (Keeps.refl (fun _ => False) w).alloc (.cells #[.int .i64 i, .int .i64 n] 27)
  have a0 : (w.alloc (.cells #[.int .i64 i, .int .i64 n] 27)).cell? ⟨w.heap.size, 0, none⟩ = some (.int .i64 i) := cells_at (heap_alloc_new w _) 0
  have a1 : (w.alloc (.cells #[.int .i64 i, .int .i64 n] 27)).cell? ⟨w.heap.size, 1, none⟩ = some (.int .i64 n) := cells_at (heap_alloc_new w _) 1
  have c0 : w.cell? ⟨c, 0, none⟩ = some v := cells_at h.cell 0
  have b0 := K0.cell c0 (by simp)
  obtain ⟨a, cap, rfl⟩ := row_len h.row
  have t1 : decide (0 ≤ (i : Int)) = true := by simp
  have t3 : decide (i < L.length) = false := by simp; omega
  obtain ⟨W1, hW1⟩ : ∃ W1, W1 = w.alloc (.cells #[.int .i64 i, .int .i64 n] 27) := ⟨_, rfl⟩
  rw [← hW1] at K0 a0 a1 b0
  have HK := hidp K0
  clear h c0 K0 hi
  go_enter Try.func28, Try.ntmps28
  go_wp2
  rw [← hW1]
  clear hW1
  go_quiet (fail)
  go_wp2
  go_ret
  exact ⟨rfl, keeps_drewN HK.out _⟩

theorem rtherec {w : World} {c : Nat} {v : Value} {g : Option Nat} {L : List Cl} (h : RF w c v g L) (i : Nat) (n : Int) (hi : i < L.length) (hh : ¬ L[i].has = true) :
    Calls Try.prog 28 #[.pointer (some ⟨c, 0, none⟩), .agg #[.int .i64 i, .int .i64 n]] w fun e w' => e = .returned (.bool false) ∧ Keeps (fun _ => False) w w' := by
  have K0 := (Keeps.refl (fun _ => False) w).alloc (.cells #[.int .i64 i, .int .i64 n] 27)
  have a0 : (w.alloc (.cells #[.int .i64 i, .int .i64 n] 27)).cell? ⟨w.heap.size, 0, none⟩ = some (.int .i64 i) := cells_at (heap_alloc_new w _) 0
  have a1 : (w.alloc (.cells #[.int .i64 i, .int .i64 n] 27)).cell? ⟨w.heap.size, 1, none⟩ = some (.int .i64 n) := cells_at (heap_alloc_new w _) 1
  have c0 : w.cell? ⟨c, 0, none⟩ = some v := cells_at h.cell 0
  have b0 := K0.cell c0 (by simp)
  obtain ⟨k, cap, rfl, rfl, hc1, hc2, r0, r1, r2⟩ := row_read h.row hi
  have b1 := K0.cell r0 (by simp)
  have b2 := K0.cell r1 (by simp)
  have t1 : decide (0 ≤ (i : Int)) = true := by simp
  have t2 : ((i : Int) < L.length) := by omega
  have t3 : decide (i < L.length) = true := by simp; omega
  rw [show L[i].has = false by simpa using hh] at b2
  obtain ⟨W1, hW1⟩ : ∃ W1, W1 = w.alloc (.cells #[.int .i64 i, .int .i64 n] 27) := ⟨_, rfl⟩
  rw [← hW1] at K0 a0 a1 b0 b1 b2
  have HK := hidp K0
  clear h r0 r1 r2 c0 K0 hh b1
  go_enter Try.func28, Try.ntmps28
  go_wp2
  rw [← hW1]
  clear hW1
  go_quiet (fail)
  go_wp2
  go_ret
  exact ⟨rfl, keeps_drewN HK.out _⟩

theorem rthered {w : World} {c : Nat} {v : Value} {g : Option Nat} {L : List Cl} (h : RF w c v g L) (i : Nat) (n : Int) (hi : i < L.length) (hh : L[i].has = true) (t : Bool) (ht : ((L[i].gen : Int) == n) = t) :
    Calls Try.prog 28 #[.pointer (some ⟨c, 0, none⟩), .agg #[.int .i64 i, .int .i64 n]] w fun e w' => e = .returned (.bool t) ∧ Keeps (fun _ => False) w w' := by
  have K0 := (Keeps.refl (fun _ => False) w).alloc (.cells #[.int .i64 i, .int .i64 n] 27)
  have a0 : (w.alloc (.cells #[.int .i64 i, .int .i64 n] 27)).cell? ⟨w.heap.size, 0, none⟩ = some (.int .i64 i) := cells_at (heap_alloc_new w _) 0
  have a1 : (w.alloc (.cells #[.int .i64 i, .int .i64 n] 27)).cell? ⟨w.heap.size, 1, none⟩ = some (.int .i64 n) := cells_at (heap_alloc_new w _) 1
  have c0 : w.cell? ⟨c, 0, none⟩ = some v := cells_at h.cell 0
  have b0 := K0.cell c0 (by simp)
  obtain ⟨k, cap, rfl, rfl, hc1, hc2, r0, r1, r2⟩ := row_read h.row hi
  have b1 := K0.cell r0 (by simp)
  have b2 := K0.cell r1 (by simp)
  have t1 : decide (0 ≤ (i : Int)) = true := by simp
  have t2 : ((i : Int) < L.length) := by omega
  have t3 : decide (i < L.length) = true := by simp; omega
  rw [hh] at b2
  obtain ⟨G, hG⟩ : ∃ G : Int, G = L[i].gen := ⟨_, rfl⟩
  rw [← hG] at b1 ht
  obtain ⟨W1, hW1⟩ : ∃ W1, W1 = w.alloc (.cells #[.int .i64 i, .int .i64 n] 27) := ⟨_, rfl⟩
  rw [← hW1] at K0 a0 a1 b0 b1 b2
  have HK := hidp K0
  clear h r0 r1 r2 c0 K0 hh hG
  go_enter Try.func28, Try.ntmps28
  go_wp2
  rw [← hW1]
  clear hW1
  go_quiet (fail)
  go_wp2
  go_ret
  exact ⟨rfl, keeps_drewN HK.out _⟩

theorem rthereno {w : World} {c : Nat} {v : Value} {g : Option Nat} {L : List Cl} (h : RF w c v g L) (s n : Int) (hno : ∀ i, ¬ Hit L s n i) :
    Calls Try.prog 28 #[.pointer (some ⟨c, 0, none⟩), .agg #[.int .i64 s, .int .i64 n]] w fun e w' => e = .returned (.bool false) ∧ Keeps (fun _ => False) w w' := by
  by_cases hs : s < 0
  · exact rtherea h s n hs
  obtain ⟨i, rfl⟩ := Int.eq_ofNat_of_zero_le (show 0 ≤ s by omega)
  by_cases hi : i < L.length
  · by_cases hh : L[i].has = true
    · refine rthered h i n hi hh false ?_
      simp only [beq_eq_false_iff_ne, ne_eq]
      exact fun e => hno i ⟨hi, rfl, hh, e⟩
    · exact rtherec h i n hi hh
  · exact rthereb h i n hi

theorem rthereyes {w : World} {c : Nat} {v : Value} {g : Option Nat} {L : List Cl} (h : RF w c v g L) (s n : Int) (i : Nat) (hi : i < L.length) (hit : Hit L s n i) :
    Calls Try.prog 28 #[.pointer (some ⟨c, 0, none⟩), .agg #[.int .i64 s, .int .i64 n]] w fun e w' => e = .returned (.bool true) ∧ Keeps (fun _ => False) w w' := by
  obtain ⟨_, rfl, hh, hn⟩ := hit
  exact rthered h i n hi hh true (by simp [hn])

theorem rgetno {w : World} {c : Nat} {v : Value} {g : Option Nat} {L : List Cl} (h : RF w c v g L) (s n : Int) (hno : ∀ i, ¬ Hit L s n i) :
    Calls Try.prog 15 #[.pointer (some ⟨c, 0, none⟩), .agg #[.int .i64 s, .int .i64 n]] w fun e w' => e = .returned (.tuple #[.int .i64 0, .bool false]) ∧ Keeps (fun _ => False) w w' := by
  have K0 := (Keeps.refl (fun _ => False) w).alloc (.cells #[.int .i64 s, .int .i64 n] 27)
  have h0 := h.keep K0 (by simp) (by simp)
  have HC := hidp (rthereno h0 s n hno)
  have HK := hidp K0
  have a0 : (w.alloc (.cells #[.int .i64 s, .int .i64 n] 27)).cell? ⟨w.heap.size, 0, none⟩ = some (.int .i64 s) := cells_at (heap_alloc_new w _) 0
  have a1 : (w.alloc (.cells #[.int .i64 s, .int .i64 n] 27)).cell? ⟨w.heap.size, 1, none⟩ = some (.int .i64 n) := cells_at (heap_alloc_new w _) 1
  clear h h0 K0 hno
  go_enter Try.func15, Try.ntmps15
  go_wp2_with fail
  refine HC.out.mono ?_
  rintro e W2 ⟨rfl, K2⟩
  have HK3 := hidp (HK.out.trans K2)
  clear K2 HK HC
  go_wp2
  go_ret2
  exact ⟨rfl, HK3.out⟩

theorem rgetyes {w : World} {c : Nat} {v : Value} {g : Option Nat} {L : List Cl} (h : RF w c v g L) (s n : Int) (i : Nat) (hi : i < L.length) (hit : Hit L s n i) :
    Calls Try.prog 15 #[.pointer (some ⟨c, 0, none⟩), .agg #[.int .i64 s, .int .i64 n]] w fun e w' => e = .returned (.tuple #[L[i].x, .bool true]) ∧ Keeps (fun _ => False) w w' := by
  have K0 := (Keeps.refl (fun _ => False) w).alloc (.cells #[.int .i64 s, .int .i64 n] 27)
  have h0 := h.keep K0 (by simp) (by simp)
  have HC := hidp (rthereyes h0 s n i hi hit)
  obtain ⟨_, rfl, hh, hn⟩ := hit
  obtain ⟨k, cap, rfl, rfl, hc1, hc2, r0, r1, r2⟩ := row_read h.row hi
  obtain ⟨X, hX⟩ : ∃ X, X = L[i].x := ⟨_, rfl⟩
  rw [← hX] at r2 ⊢
  have c0 : w.cell? ⟨c, 0, none⟩ = some (.slice (some ⟨k, 0, none⟩) L.length cap) := cells_at h.cell 0
  have a0 : (w.alloc (.cells #[.int .i64 i, .int .i64 n] 27)).cell? ⟨w.heap.size, 0, none⟩ = some (.int .i64 i) := cells_at (heap_alloc_new w _) 0
  have a1 : (w.alloc (.cells #[.int .i64 i, .int .i64 n] 27)).cell? ⟨w.heap.size, 1, none⟩ = some (.int .i64 n) := cells_at (heap_alloc_new w _) 1
  have b0 := K0.cell c0 (by simp)
  have b2 := K0.cell r2 (by simp)
  have HK := hidp K0
  have HF := hidp (And.intro a0 (And.intro b0 b2))
  clear h h0 K0 r0 r1 r2 hh hn c0 hc1 hc2 hX b0 b2
  go_enter Try.func15, Try.ntmps15
  go_wp2_with fail
  refine HC.out.mono ?_
  rintro e W2 ⟨rfl, K2⟩
  have K3 := HK.out.trans K2
  obtain ⟨a0, b0, b2⟩ := HF.out
  have a0 := K2.cell a0 (by simp)
  have b0 := K2.cell b0 (by simp)
  have b2 := K2.cell b2 (by simp)
  have t2 : ((i : Int) < L.length) := by omega
  have HK3 := hidp K3
  clear K2 K3 HK HC HF
  go_wp2_with fail
  go_quiet (fail)
  go_wp2
  go_ret2
  exact ⟨rfl, keeps_drewN HK3.out _⟩

theorem rsetno {w : World} {c : Nat} {v : Value} {g : Option Nat} {L : List Cl} (h : RF w c v g L) (s n x : Int) (hno : ∀ i, ¬ Hit L s n i) :
    Calls Try.prog 16 #[.pointer (some ⟨c, 0, none⟩), .agg #[.int .i64 s, .int .i64 n], .int .i64 x] w fun e w' => e = .returned (.bool false) ∧ Keeps (fun _ => False) w w' := by
  have K0 := (Keeps.refl (fun _ => False) w).alloc (.cells #[.int .i64 s, .int .i64 n] 27)
  have h0 := h.keep K0 (by simp) (by simp)
  have HC := hidp (rthereno h0 s n hno)
  have HK := hidp K0
  have a0 : (w.alloc (.cells #[.int .i64 s, .int .i64 n] 27)).cell? ⟨w.heap.size, 0, none⟩ = some (.int .i64 s) := cells_at (heap_alloc_new w _) 0
  have a1 : (w.alloc (.cells #[.int .i64 s, .int .i64 n] 27)).cell? ⟨w.heap.size, 1, none⟩ = some (.int .i64 n) := cells_at (heap_alloc_new w _) 1
  clear h h0 K0 hno
  go_enter Try.func16, Try.ntmps16
  go_wp2_with fail
  refine HC.out.mono ?_
  rintro e W2 ⟨rfl, K2⟩
  have HK3 := hidp (HK.out.trans K2)
  clear K2 HK HC
  go_wp2
  go_ret
  exact ⟨rfl, HK3.out⟩

theorem rsetyes {w : World} {c : Nat} {v : Value} {g : Option Nat} {L : List Cl} (h : RF w c v g L) (s n : Int) (i : Nat) (hi : i < L.length) (hit : Hit L s n i) (x : Int) :
    Calls Try.prog 16 #[.pointer (some ⟨c, 0, none⟩), .agg #[.int .i64 s, .int .i64 n], .int .i64 x] w fun e w' => e = .returned (.bool true) ∧ DidR w c g (L.set i ⟨L[i].gen, true, .int .i64 x⟩) w' := by
  have K0 := (Keeps.refl (fun _ => False) w).alloc (.cells #[.int .i64 s, .int .i64 n] 27)
  have h0 := h.keep K0 (by simp) (by simp)
  have HC := hidp (rthereyes h0 s n i hi hit)
  obtain ⟨_, rfl, hh, hn⟩ := hit
  obtain ⟨k, cap, rfl, rfl, hkc, hraw⟩ := row_raw h.row hi
  have a0 : (w.alloc (.cells #[.int .i64 i, .int .i64 n] 27)).cell? ⟨w.heap.size, 0, none⟩ = some (.int .i64 i) := cells_at (heap_alloc_new w _) 0
  have a1 : (w.alloc (.cells #[.int .i64 i, .int .i64 n] 27)).cell? ⟨w.heap.size, 1, none⟩ = some (.int .i64 n) := cells_at (heap_alloc_new w _) 1
  have HA := hidp a0
  have HH := hidp h
  have HR := hidp hraw
  have HK := hidp K0
  clear h h0 K0 hn hraw
  go_enter Try.func16, Try.ntmps16
  go_wp2_with fail
  refine HC.out.mono ?_
  rintro e W2 ⟨rfl, K2⟩
  have K3 := HK.out.trans K2
  have hr := raw_keep HR.out K3 (by simp)
  have fr := raw_free hr (i * 3 + 2)
  have r2 : W2.cell? ⟨k, i * 3 + 2, none⟩ = some L[i].x := (raw_cell hr (by omega)).trans (flat_get L i hi).2.2
  have hcell := (K3.block c (Array.getElem?_eq_some_iff.1 HH.out.cell).1 (by simp)).trans HH.out.cell
  have c0 : W2.cell? ⟨c, 0, none⟩ = some (.slice (some ⟨k, 0, none⟩) L.length cap) := cells_at hcell 0
  have a0 := K2.cell HA.out (by simp)
  have hfin : ∀ m, DidR w c (some k) (L.set i ⟨L[i].gen, true, .int .i64 x⟩) ((W2.drewN m).setCell ⟨k, i * 3 + 2, none⟩ (.int .i64 x)) := by
    intro m
    have hr : Raw 70 (W2.drewN m) k L.length cap (flat L) := hr
    have hcell : (W2.drewN m).heap[c]? = _ := hcell
    have K3 := keeps_drewN K3 m
    refine ⟨.slice (some ⟨k, 0, none⟩) L.length cap, some k, ⟨?_, raw_row (n := L.length) hkc (List.length_set ..).symm ?_, ?_, ?_⟩, .inl rfl, (K3.mono (fun _ _ h => h.elim)).setCell (.inl (.inr rfl)) _⟩
    · rw [Below.heap_setCell _ _ _ _ (by simpa using (Ne.symm hkc)), hcell]
    · have := raw_set hr (i * 3 + 2) (.int .i64 x)
      rw [flat_setX L i hi, hh] at this
      exact this
    · simpa using HH.out.len
    · intro d hd
      rcases List.mem_or_eq_of_mem_set hd with h | h
      · exact HH.out.els d h
      · exact ⟨x, by rw [h]⟩
  have HF := hidp hfin
  have t2 : ((i : Int) < L.length) := by omega
  clear hfin hcell hr K2 K3 HC HK HH HR hh HA
  go_wp2_with fail
  go_still_tail 9, (by kernel_rfl)
  go_wp2
  go_ret
  exact ⟨rfl, HF.out 1⟩
end Go.Proofs.Ytnhcejbgkhhijaa
