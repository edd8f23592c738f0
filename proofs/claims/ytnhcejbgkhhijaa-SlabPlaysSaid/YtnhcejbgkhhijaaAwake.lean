/- awake. -/
import Derived.Test.YtnhcejbgkhhijaaOwn
namespace Go.Proofs.Ytnhcejbgkhhijaa
open Go.RowKit Go.Pairs

theorem Own_i.alloc {w W : World} {c : Nat} {L : List Cl} {A : Nat → Prop} (h : Own_i w W c L A) (hA : ∀ k, A k → w.heap.size ≤ k) (o : Obj) : Own_i w (W.alloc o) c L (fun k => A k ∨ k = W.heap.size) :=
  h.mine ((Keeps.refl _ _).alloc o) hA fun k hk => by
    have hl := h.lt k
    rcases hk with hk | hk
    · have := hl hk; exact ⟨.inl hk, by simp; omega⟩
    · exact ⟨.inr (by omega), by simp; omega⟩
theorem Own_s.alloc {w W : World} {c : Nat} {L : List Cl} {A : Nat → Prop} (h : Own_s w W c L A) (hA : ∀ k, A k → w.heap.size ≤ k) (o : Obj) : Own_s w (W.alloc o) c L (fun k => A k ∨ k = W.heap.size) :=
  h.mine ((Keeps.refl _ _).alloc o) hA fun k hk => by
    have hl := h.lt k
    rcases hk with hk | hk
    · have := hl hk; exact ⟨.inl hk, by simp; omega⟩
    · exact ⟨.inr (by omega), by simp; omega⟩

set_option maxRecDepth 100000 in
set_option maxHeartbeats 4000000 in
theorem awake_any (w : World) : Calls Try.prog 13 #[] w fun e w' => e = .returned (.bool true) ∧ Keeps (fun _ => False) w w' := by
  go_enter Try.func13, Try.ntmps13
  go_wp2_with fail
  refine (ownnew_s w w (fun _ => False) (Keeps.refl _ _) (by simp)).mono ?_
  rintro e W1 ⟨rfl, O1, -⟩
  have C1 : Calls Try.prog 24 #[.pointer (some ⟨w.heap.size, 0, none⟩), .string ⟨#[97]⟩] W1 fun e w' => e = .returned (.agg #[.int .i64 0, .int .i64 1]) ∧ Own_s w w' w.heap.size [⟨1, true, .string ⟨#[97]⟩⟩] (fun _ => False) ∧ Keeps (fun k => ¬ False) W1 w' := ownput_s O1 (by simp) (by simp) ⟨#[97]⟩
  clear O1
  go_wp2_with fail
  refine C1.mono ?_
  clear C1
  rintro e W2 ⟨rfl, O2, -⟩
  have hlt2 := O2.keeps.size
  have O3 := O2.alloc (by simp) (.cells #[.int .i64 0, .int .i64 1] 27)
  have a0 : (W2.alloc (.cells #[.int .i64 0, .int .i64 1] 27)).cell? ⟨W2.heap.size, 0, none⟩ = some (.int .i64 0) := cells_at (heap_alloc_new W2 _) 0
  have a1 : (W2.alloc (.cells #[.int .i64 0, .int .i64 1] 27)).cell? ⟨W2.heap.size, 1, none⟩ = some (.int .i64 1) := cells_at (heap_alloc_new W2 _) 1
  obtain ⟨W3, hW3⟩ : ∃ W3, W3 = W2.alloc (.cells #[.int .i64 0, .int .i64 1] 27) := ⟨_, rfl⟩
  rw [← hW3] at O3 a0 a1
  have HW3 := hidp hW3
  clear hW3 O2
  go_wp2_with fail
  rw [← HW3.out]
  obtain ⟨h1, hh1⟩ : ∃ h1, h1 = W2.heap.size := ⟨_, rfl⟩
  rw [← hh1] at a0 a1 O3 hlt2
  simp only [← hh1]
  clear hh1 HW3
  have C2 : Calls Try.prog 24 #[.pointer (some ⟨w.heap.size, 0, none⟩), .string ⟨#[98]⟩] W3 fun e w' => e = .returned (.agg #[.int .i64 1, .int .i64 1]) ∧ Own_s w w' w.heap.size [⟨1, true, .string ⟨#[97]⟩⟩, ⟨1, true, .string ⟨#[98]⟩⟩] (fun k => False ∨ k = h1) ∧ Keeps (fun k => ¬ (False ∨ k = h1)) W3 w' := ownput_s O3 (by simp) (by simp) ⟨#[98]⟩
  refine C2.mono ?_
  clear C2 O3
  rintro e W4 ⟨rfl, O4, K4⟩
  have b0 := K4.cell a0 (by simp)
  have b1 := K4.cell a1 (by simp)
  clear a0 a1 K4
  have C3 : Calls Try.prog 25 #[.pointer (some ⟨w.heap.size, 0, none⟩), .agg #[.int .i64 0, .int .i64 1]] W4 fun e w' => e = .returned (.tuple #[.string ⟨#[97]⟩, .bool true]) ∧ Own_s w w' w.heap.size [⟨1, false, .string ⟨#[]⟩⟩, ⟨1, true, .string ⟨#[98]⟩⟩] (fun k => False ∨ k = h1) ∧ Keeps (fun k => ¬ (False ∨ k = h1)) W4 w' := owndrop_s O4 0 1 0 (by simp) ⟨by simp, rfl, rfl, rfl⟩
  clear O4
  go_wp2_with fail
  refine C3.mono ?_
  clear C3
  rintro e W5 ⟨rfl, O5, K5⟩
  have c0 := K5.cell b0 (by simp)
  have c1 := K5.cell b1 (by simp)
  clear b0 b1 K5
  have C4 : Calls Try.prog 24 #[.pointer (some ⟨w.heap.size, 0, none⟩), .string ⟨#[99]⟩] W5 fun e w' => e = .returned (.agg #[.int .i64 0, .int .i64 2]) ∧ Own_s w w' w.heap.size [⟨2, true, .string ⟨#[99]⟩⟩, ⟨1, true, .string ⟨#[98]⟩⟩] (fun k => False ∨ k = h1) ∧ Keeps (fun k => ¬ (False ∨ k = h1)) W5 w' := ownput_s O5 (by simp) (by simp) ⟨#[99]⟩
  clear O5
  go_wp2_with fail
  refine C4.mono ?_
  clear C4
  rintro e W6 ⟨rfl, O6, K6⟩
  have b0 := K6.cell c0 (by simp)
  have b1 := K6.cell c1 (by simp)
  have hlt6 : h1 < W6.heap.size := lt_of_cell b0
  clear c0 c1 K6
  have K7 : Keeps (fun _ => False) W6 (W6.alloc (.cells #[.int .i64 0, .int .i64 2] 27)) := (Keeps.refl _ _).alloc _
  have O7 := O6.alloc (fun k h => by rcases h with h | h; exact h.elim; omega) (.cells #[.int .i64 0, .int .i64 2] 27)
  have a0 := K7.cell b0 (by simp)
  have a1 := K7.cell b1 (by simp)
  have d0 : (W6.alloc (.cells #[.int .i64 0, .int .i64 2] 27)).cell? ⟨W6.heap.size, 0, none⟩ = some (.int .i64 0) := cells_at (heap_alloc_new W6 _) 0
  have d1 : (W6.alloc (.cells #[.int .i64 0, .int .i64 2] 27)).cell? ⟨W6.heap.size, 1, none⟩ = some (.int .i64 2) := cells_at (heap_alloc_new W6 _) 1
  obtain ⟨W7, hW7⟩ : ∃ W7, W7 = W6.alloc (.cells #[.int .i64 0, .int .i64 2] 27) := ⟨_, rfl⟩
  rw [← hW7] at O7 a0 a1 d0 d1 K7
  have HW7 := hidp hW7
  have HD := hidp (And.intro a0 (And.intro a1 (And.intro d0 d1)))
  clear hW7 O6 b0 b1 K7 a0 a1 d0 d1
  have HD' := HD
  go_wp2_with fail
  rw [← HW7.out]
  obtain ⟨a0, a1, d0, d1⟩ := HD.out
  obtain ⟨h2, hh2⟩ : ∃ h2, h2 = W6.heap.size := ⟨_, rfl⟩
  rw [← hh2] at d0 d1 O7 hlt6
  simp only [← hh2]
  clear hh2 HW7 HD HD'
  go_wp2_with fail
  have G1 : Calls Try.prog 26 #[.pointer (some ⟨w.heap.size, 0, none⟩), .agg #[.int .i64 0, .int .i64 2]] W7 fun e w' => e = .returned (.tuple #[.string ⟨#[99]⟩, .bool true]) ∧ Own_s w w' w.heap.size _ _ ∧ Keeps _ W7 w' := ownget_s O7 0 2 0 (by simp) ⟨by simp, rfl, rfl, rfl⟩
  refine G1.mono ?_
  clear G1
  rintro e W8 ⟨rfl, O8, K8⟩
  have e0 := K8.cell a0 (by simp)
  have e1 := K8.cell a1 (by simp)
  have g0 := K8.cell d0 (by simp)
  have g1 := K8.cell d1 (by simp)
  clear a0 a1 d0 d1 K8 O7
  have G2 : Calls Try.prog 26 #[.pointer (some ⟨w.heap.size, 0, none⟩), .agg #[.int .i64 0, .int .i64 1]] W8 fun e w' => e = .returned (.tuple #[.string ⟨#[]⟩, .bool false]) ∧ Own_s w w' w.heap.size _ _ ∧ Keeps _ W8 w' := owngetno_s O8 0 1 (by
    rintro i ⟨hi, h1, h2, h3⟩
    obtain rfl : i = 0 := by omega
    simp at h3)
  clear O8
  go_wp2_with fail
  refine G2.mono ?_
  clear G2
  rintro e W9 ⟨rfl, O9, K9⟩
  have a0 := K9.cell e0 (by simp)
  have a1 := K9.cell e1 (by simp)
  have d0 := K9.cell g0 (by simp)
  have d1 := K9.cell g1 (by simp)
  have hln : Calls Try.prog 27 #[.pointer (some ⟨w.heap.size, 0, none⟩)] W9 fun e w' => e = .returned (.int .i64 2) ∧ W9 = w' := ownlen_s O9
  have HK := hidp O9.keeps
  clear e0 e1 g0 g1 K9 O9
  go_wp2_with (go_at_call 27; refine hln.mono ?_; rintro e w' ⟨rfl, rfl⟩)
  go_ret
  exact ⟨rfl, HK.out⟩
end Go.Proofs.Ytnhcejbgkhhijaa
