/- SlabLoops, every input. -/
import Derived.Test.YtnhcejbgkhhijaaLoopsW
namespace Go.Proofs.Ytnhcejbgkhhijaa
open Go.RowKit Go.Pairs Go.Shelf
attribute [local go_sem] Oper.semAt_some

set_option maxRecDepth 100000 in
set_option maxHeartbeats 4000000 in
theorem loops_no (w : World) (nn : Int) (hn : nn < 0 ∨ (¬ nn < 0 ∧ 40 < nn)) (stop : Int) :
    Calls Try.prog 5 #[.int .i64 nn, .int .i64 stop] w fun e w' => e = .returned (.bool true) ∧ Below w.heap.size w w' := by
  refine (callsIn_wide (n := 3)).1 ?_
  refine callsIn_of_wp_marks Try.func5 rfl trivial ?_ rfl
  simp only [Try.ntmps5, List.size_toArray, List.length_cons, List.length_nil, Nat.reduceAdd, Nat.reduceSub, Array.replicate_succ, Array.replicate_zero, List.push_toArray, List.append_toArray, List.nil_append, List.cons_append]
  obtain ⟨W3, hW3⟩ : ∃ W3, W3 = ((w.alloc (.cells #[.int .i64 nn] 3)).alloc (.cells #[.int .i64 stop] 3)).alloc (.cells #[.bool false] 4) := ⟨_, rfl⟩
  have K3 : Keeps (fun _ => False) w W3 := hW3 ▸ (((Keeps.refl _ _).alloc _).alloc _).alloc _
  have hs3 : W3.heap.size = w.heap.size + 1 + 1 + 1 := by rw [hW3]; simp
  have d1 : W3.heap[w.heap.size]? = some (.cells #[.int .i64 nn] 3 (0, 0)) := by
    rw [hW3, heap_alloc_old _ _ _ (by simp; omega), heap_alloc_old _ _ _ (by simp)]; exact heap_alloc_new _ _
  have d2 : W3.heap[w.heap.size + 1]? = some (.cells #[.int .i64 stop] 3 (0, 0)) := by
    rw [hW3, heap_alloc_old _ _ _ (by simp)]
    have := heap_alloc_new (w.alloc (.cells #[.int .i64 nn] 3)) (.cells #[.int .i64 stop] 3)
    simpa using this
  have d3 : W3.heap[w.heap.size + 1 + 1]? = some (.cells #[.bool false] 4 (0, 0)) := by
    rw [hW3]
    have := heap_alloc_new ((w.alloc (.cells #[.int .i64 nn] 3)).alloc (.cells #[.int .i64 stop] 3)) (.cells #[.bool false] 4)
    simpa using this
  have HD := hidp (And.intro d1 (And.intro d2 d3))
  have HK3 := hidp K3
  clear d1 d2 d3 K3
  gi_wp2
  rw [← hW3]
  clear hW3
  refine ⟨trivial, (callsIn_wide.2 (ownnew_i w W3 (fun k => k = w.heap.size ∨ k = w.heap.size + 1 ∨ k = w.heap.size + 1 + 1) HK3.out (by rintro k (rfl | rfl | rfl) <;> omega))).mono ?_⟩
  rintro e W4 ⟨rfl, O4, K4⟩
  have d1 := (K4.block _ (by omega) (fun h => h (.inl rfl))).trans HD.out.1
  have d2 := (K4.block _ (by omega) (fun h => h (.inr (.inl rfl)))).trans HD.out.2.1
  have d3 := (K4.block _ (by omega) (fun h => h (.inr (.inr rfl)))).trans HD.out.2.2
  have hsz4 := O4.slt
  obtain ⟨c, hcc⟩ : ∃ c, c = W3.heap.size := ⟨_, rfl⟩
  obtain ⟨bn, hbn⟩ : ∃ bn, bn = w.heap.size := ⟨_, rfl⟩
  obtain ⟨bt, hbt⟩ : ∃ bt, bt = bn + 1 := ⟨_, rfl⟩
  obtain ⟨br, hbr⟩ : ∃ br, br = bt + 1 := ⟨_, rfl⟩
  have O5 := O4.alloc (by rintro k (rfl | rfl | rfl) <;> omega) (.cells #[.pointer (some ⟨c, 0, none⟩)] 23)
  rw [← hcc] at hsz4 hs3
  simp only [← hcc, ← hbn, ← hbt, ← hbr] at O5 d1 d2 d3 hs3 ⊢
  have c_n : (W4.alloc (.cells #[.pointer (some ⟨c, 0, none⟩)] 23)).cell? ⟨bn, 0, none⟩ = some (.int .i64 nn) := cells_at ((heap_alloc_old _ _ _ (by omega)).trans d1) 0
  have c_s : (W4.alloc (.cells #[.pointer (some ⟨c, 0, none⟩)] 23)).cell? ⟨W4.heap.size, 0, none⟩ = some (.pointer (some ⟨c, 0, none⟩)) := cells_at (heap_alloc_new _ _) 0
  have d4 : (W4.alloc (.cells #[.pointer (some ⟨c, 0, none⟩)] 23)).heap[br]? = some (.cells #[.bool false] 4 (0, 0)) := (heap_alloc_old _ _ _ (by omega)).trans d3
  have K5 : Keeps (fun _ => False) w (W4.alloc (.cells #[.pointer (some ⟨c, 0, none⟩)] 23)) := O4.keeps.alloc _
  have hb : w.heap.size ≤ br := by omega
  have HD4 := hidp (And.intro d4 (And.intro K5 hb))
  obtain ⟨W5, hW5⟩ : ∃ W5, W5 = W4.alloc (.cells #[.pointer (some ⟨c, 0, none⟩)] 23) := ⟨_, rfl⟩
  rw [← hW5] at HD4
  have HW5 := hidp hW5
  clear O4 O5 K4 d1 d2 d3 HD HK3 hcc hs3 hsz4 hbn hbt hbr hW5 d4 K5 hb
  have hsp : (decide (nn < 0) = true) ∨ (decide (nn < 0) = false ∧ decide (40 < nn) = true) := by
    rcases hn with h | ⟨h, h'⟩
    · exact .inl (by simpa using h)
    · exact .inr ⟨by simpa using h, by simpa using h'⟩
  clear hn
  rcases hsp with t1 | ⟨t1, t2⟩
  all_goals
    gi_wp2
    rw [← HW5.out]
    refine ⟨trivial, (callsIn_wide.2 (awake_any W5)).mono ?_⟩
    rintro e W9 ⟨rfl, K9⟩
    have d9 := (K9.block br (Array.getElem?_eq_some_iff.1 HD4.out.1).1 (fun h => h)).trans HD4.out.1
    have c_r := cells_at d9 0
    have f_r := free_at d9 0
    simp only [List.getElem?_toArray, List.getElem?_cons_zero] at c_r
    have hbel : Below w.heap.size w (W9.setCell ⟨br, 0, none⟩ (.bool true)) := ((HD4.out.2.1.trans K9).setCell (p := ⟨br, 0, none⟩) (.inr HD4.out.2.2) (.bool true)).below (Nat.le_refl _) (fun _ _ h => h)
    have hres : (W9.setCell ⟨br, 0, none⟩ (.bool true)).cell? ⟨br, 0, none⟩ = some (.bool true) := by
      rw [cells_at (setCell_block d9 0 _) 0]; rfl
    have HB := hidp (And.intro hbel hres)
    clear d9 hbel hres c_n c_s
    gi_wp2
    have hres := HB.out.2
    exact ⟨_, by simp [results, Try.results5, go_sem, hres], rfl, HB.out.1⟩

theorem slabLoops_walk (w : World) (n : Int) (_wn : (Lit.int .i64 n).wf = true) (stop : Int) (_ws : (Lit.int .i64 stop).wf = true) :
    Calls Try.prog 5 #[.int .i64 n, .int .i64 stop] w fun e w' => e = .returned (.bool true) ∧ Below w.heap.size w w' := by
  by_cases h : n < 0
  · exact loops_no w n (.inl h) stop
  · by_cases h' : 40 < n
    · exact loops_no w n (.inr ⟨h, h'⟩) stop
    · obtain ⟨k, rfl⟩ := Int.eq_ofNat_of_zero_le (show 0 ≤ n by omega)
      exact loops_yes w k (by omega) stop
end Go.Proofs.Ytnhcejbgkhhijaa
