/- The slab's methods that change: Set, Drop; at ints and at strings. -/
import Derived.Test.YtnhcejbgkhhijaaLook
namespace Go.Proofs.Ytnhcejbgkhhijaa
open Go.RowKit Go.Pairs

/-- a row of slots, in the raw. -/
def Raw (e : TypeId) (w : World) (k n cap : Nat) (F : List Value) : Prop :=
  ∃ cur, w.heap[k]? = some (.cells cur e (0, 0)) ∧ n ≤ cap ∧ cap ≤ maxLen ∧ cur.size = cap * 3 ∧ cur.toList.take (n * 3) = F

theorem row_raw {e : TypeId} {w : World} {c : Nat} {L : List Cl} {v : Value} {g : Option Nat} (h : Row e w c L v g) {i : Nat} (hi : i < L.length) :
    ∃ k cap, g = some k ∧ v = .slice (some ⟨k, 0, none⟩) L.length cap ∧ k ≠ c ∧ Raw e w k L.length cap (flat L) := by
  cases h with
  | none_ h => simp [h] at hi
  | row k cap cur h1 h2 h3 h4 h5 h6 => exact ⟨k, cap, rfl, rfl, h1, cur, h2, h3, h4, h5, h6⟩

theorem raw_row {e : TypeId} {w : World} {c : Nat} {L : List Cl} {k n cap : Nat} (hk : k ≠ c) (hn : n = L.length) (h : Raw e w k n cap (flat L)) : Row e w c L (.slice (some ⟨k, 0, none⟩) n cap) (some k) := by
  subst hn
  obtain ⟨cur, h2, h3, h4, h5, h6⟩ := h
  exact .row k cap cur hk h2 h3 h4 h5 h6

theorem raw_set {e : TypeId} {w : World} {k n cap : Nat} {F : List Value} (h : Raw e w k n cap F) (j : Nat) (u : Value) : Raw e (w.setCell ⟨k, j, none⟩ u) k n cap (F.set j u) := by
  obtain ⟨cur, h2, h3, h4, h5, h6⟩ := h
  refine ⟨cur.setIfInBounds j u, setCell_block h2 j u, h3, h4, by simp [h5], ?_⟩
  rw [Array.toList_setIfInBounds, ← h6]
  apply List.ext_getElem?
  intro m
  simp only [List.getElem?_take, List.getElem?_set, List.length_take, Array.length_toList]
  split <;> split <;> simp_all <;> omega

theorem raw_other {e : TypeId} {w : World} {k n cap : Nat} {F : List Value} (h : Raw e w k n cap F) {c : Nat} (hc : k ≠ c) (j : Nat) (u : Value) : Raw e (w.setCell ⟨c, j, none⟩ u) k n cap F := by
  obtain ⟨cur, h2, h3⟩ := h
  exact ⟨cur, (Below.heap_setCell _ _ _ _ hc).trans h2, h3⟩

theorem raw_free {e : TypeId} {w : World} {k n cap : Nat} {F : List Value} (h : Raw e w k n cap F) (j : Nat) : w.frozen? ⟨k, j, none⟩ = false := by
  obtain ⟨cur, h2, h3⟩ := h
  exact free_at h2 j

theorem raw_lt {e : TypeId} {w : World} {k n cap : Nat} {F : List Value} (h : Raw e w k n cap F) : k < w.heap.size := by
  obtain ⟨cur, h2, h3⟩ := h
  exact (Array.getElem?_eq_some_iff.1 h2).1

theorem raw_keep {e : TypeId} {w w' : World} {k n cap : Nat} {F : List Value} (h : Raw e w k n cap F) {S : Nat → Prop} (hk : Keeps S w w') (hs : ¬ S k) : Raw e w' k n cap F := by
  have := raw_lt h
  obtain ⟨cur, h2, h3⟩ := h
  exact ⟨cur, (hk.block k this hs).trans h2, h3⟩

theorem raw_cell {e : TypeId} {w : World} {k n cap : Nat} {F : List Value} (h : Raw e w k n cap F) {j : Nat} (hj : j < n * 3) : w.cell? ⟨k, j, none⟩ = F[j]? := by
  obtain ⟨cur, h2, h3, h4, h5, h6⟩ := h
  rw [cells_at h2, ← h6, List.getElem?_take, if_pos hj, Array.getElem?_toList]

theorem cnt_set : ∀ (L : List Cl) (i : Nat) (h : i < L.length) (d : Cl), cnt (L.set i d) + (if L[i].has then 1 else 0) = cnt L + (if d.has then 1 else 0)
  | c :: L, 0, _, d => by cases hc : c.has <;> cases hd : d.has <;> simp [cnt, hc, hd]
  | c :: L, i + 1, h, d => by
    have := cnt_set L i (by simpa using h) d
    simp only [cnt, List.set_cons_succ, List.getElem_cons_succ] at this ⊢
    cases hc : c.has <;> simp [hc] <;> omega

theorem le_ff {L : List Cl} {p : Nat} (hp : p ≤ L.length) (h : ∀ j (hj : j < L.length), j < p → L[j].has = true) : p ≤ ff L := by
  rcases Nat.lt_or_ge (ff L) p with hlt | hge
  · have := ff_free L (by omega)
    rw [h _ (by omega) hlt] at this
    simp at this
  · exact hge

theorem cnt_le (L : List Cl) : cnt L ≤ L.length := List.length_filter_le _ _

theorem min_low {L : List Cl} {low i : Nat} (hl : low ≤ ff L) (hi : i < L.length) (d : Cl) : (if i < low then i else low) ≤ ff (L.set i d) := by
  have := ff_le L
  have m1 : (if i < low then i else low) ≤ low := by split <;> omega
  have m2 : (if i < low then i else low) ≤ i := by split <;> omega
  refine le_ff (by simp only [List.length_set]; exact Nat.le_trans m2 (Nat.le_of_lt hi)) fun j hj hlt => ?_
  have hne : i ≠ j := by have := Nat.lt_of_lt_of_le hlt m2; omega
  rw [List.getElem_set_ne hne]
  exact ff_before L j (by simpa using hj) (Nat.lt_of_lt_of_le hlt (Nat.le_trans m1 hl))


theorem setno_i {w : World} {c : Nat} {v : Value} {g : Option Nat} {L : List Cl} {low : Nat} (h : SL_i w c v g L low) (s n x : Int) (hno : ∀ i, ¬ Hit L s n i) :
    Calls Try.prog 11 #[.pointer (some ⟨c, 0, none⟩), .agg #[.int .i64 s, .int .i64 n], .int .i64 x] w fun e w' => e = .returned (.bool false) ∧ Keeps (fun _ => False) w w' := by
  have K0 := (Keeps.refl (fun _ => False) w).alloc (.cells #[.int .i64 s, .int .i64 n] 27)
  have h0 := h.keep K0 (by simp) (by simp)
  have HC := hidp (cellno_i h0 s n hno)
  have HK := hidp K0
  clear h h0 K0 hno
  go_enter Try.func11, Try.ntmps11
  go_wp2_with fail
  refine HC.out.mono ?_
  rintro e W2 ⟨rfl, K2⟩
  have HK3 := hidp (HK.out.trans K2)
  clear K2 HK HC
  go_wp2
  go_ret
  exact ⟨rfl, HK3.out⟩

theorem setyes_i {w : World} {c : Nat} {v : Value} {g : Option Nat} {L : List Cl} {low : Nat} (h : SL_i w c v g L low) (s n : Int) (i : Nat) (hi : i < L.length) (hit : Hit L s n i) (x : Int) :
    Calls Try.prog 11 #[.pointer (some ⟨c, 0, none⟩), .agg #[.int .i64 s, .int .i64 n], .int .i64 x] w fun e w' => e = .returned (.bool true) ∧ Did_i w c g (L.set i ⟨L[i].gen, true, .int .i64 x⟩) w' := by
  obtain ⟨_, hs, hh, hn⟩ := hit
  have K0 := (Keeps.refl (fun _ => False) w).alloc (.cells #[.int .i64 s, .int .i64 n] 27)
  have h0 := h.keep K0 (by simp) (by simp)
  have hg := h.row
  obtain ⟨k, cap, rfl, rfl, hkc, hraw⟩ := row_raw h.row hi
  have HC := hidp (cellyes_i h0 s n i hs hi hh hn)
  have HK := hidp K0
  have HH := hidp h
  have HR := hidp hraw
  clear h h0 K0 hs hn hraw hg
  go_enter Try.func11, Try.ntmps11
  go_wp2_with fail
  refine HC.out.mono ?_
  rintro e W2 ⟨⟨k', hk', rfl⟩, K2⟩
  obtain rfl : k = k' := by simpa using hk'
  have K3 := HK.out.trans K2
  have hr := raw_keep HR.out K3 (by simp)
  have fr := raw_free hr (i * 3 + 2)
  have r2 : W2.cell? ⟨k, i * 3 + 2, none⟩ = some L[i].x := (raw_cell hr (by omega)).trans (flat_get L i hi).2.2
  have hcell := (K3.block c (Array.getElem?_eq_some_iff.1 HH.out.cell).1 (by simp)).trans HH.out.cell
  have hfin : Did_i w c (some k) (L.set i ⟨L[i].gen, true, .int .i64 x⟩) (W2.setCell ⟨k, i * 3 + 2, none⟩ (.int .i64 x)) := by
    refine ⟨.slice (some ⟨k, 0, none⟩) L.length cap, some k, low, ⟨?_, raw_row (n := L.length) hkc (List.length_set ..).symm ?_, ?_, ?_, ?_⟩, .inl rfl, (K3.mono (fun _ _ h => h.elim)).setCell (.inl (.inr rfl)) _⟩
    · rw [Below.heap_setCell _ _ _ _ (by simpa using (Ne.symm hkc)), hcell]
      have := cnt_set L i hi ⟨L[i].gen, true, .int .i64 x⟩
      simp only [hh, if_true] at this
      rw [show cnt (L.set i ⟨L[i].gen, true, .int .i64 x⟩) = cnt L by omega]
    · have := raw_set hr (i * 3 + 2) (.int .i64 x)
      rw [flat_setX L i hi, hh] at this
      exact this
    · refine le_ff (by simp; exact Nat.le_trans HH.out.le (ff_le L)) fun j hj hlt => ?_
      by_cases e : i = j
      · subst e; simp
      · rw [List.getElem_set_ne e]
        exact ff_before L j (by simpa using hj) (Nat.lt_of_lt_of_le hlt HH.out.le)
    · simpa using HH.out.len
    · intro d hd
      rcases List.mem_or_eq_of_mem_set hd with h | h
      · exact HH.out.els d h
      · exact ⟨x, by rw [h]⟩
  have HF := hidp hfin
  clear hfin hcell hr K2 K3 HC HK HH HR hk' hh
  go_wp2
  go_ret
  exact ⟨rfl, HF.out⟩

theorem dropyes_i {w : World} {c : Nat} {v : Value} {g : Option Nat} {L : List Cl} {low : Nat} (h : SL_i w c v g L low) (s n : Int) (i : Nat) (hi : i < L.length) (hit : Hit L s n i) :
    Calls Try.prog 9 #[.pointer (some ⟨c, 0, none⟩), .agg #[.int .i64 s, .int .i64 n]] w fun e w' => e = .returned (.tuple #[L[i].x, .bool true]) ∧ Did_i w c g (L.set i ⟨L[i].gen, false, .int .i64 0⟩) w' := by
  obtain ⟨_, hs, hh, hn⟩ := hit
  subst hs
  have K0 := (Keeps.refl (fun _ => False) w).alloc (.cells #[.int .i64 i, .int .i64 n] 27)
  have h0 := h.keep K0 (by simp) (by simp)
  obtain ⟨k, cap, rfl, rfl, hkc, hraw⟩ := row_raw h.row hi
  have a0 : (w.alloc (.cells #[.int .i64 i, .int .i64 n] 27)).heap[w.heap.size]? = _ := heap_alloc_new w _
  have HC := hidp (cellyes_i h0 i n i rfl hi hh hn)
  have HK := hidp K0
  have HH := hidp h
  have HR := hidp hraw
  have HA := hidp a0
  clear h h0 K0 hn hraw a0
  obtain ⟨X, hX⟩ : ∃ X, X = L[i].x := ⟨_, rfl⟩
  rw [← hX]
  have HX := hidp hX
  clear hX
  go_enter Try.func9, Try.ntmps9
  go_wp2_with fail
  refine HC.out.mono ?_
  rintro e W2 ⟨⟨k', hk', rfl⟩, K2⟩
  obtain rfl : k = k' := by simpa using hk'
  have K3 := HK.out.trans K2
  have hr := raw_keep HR.out K3 (by simp)
  have hcell := (K3.block c (Array.getElem?_eq_some_iff.1 HH.out.cell).1 (by simp)).trans HH.out.cell
  have ha := (K2.block w.heap.size (by simp) (by simp)).trans HA.out
  have hcs := (Array.getElem?_eq_some_iff.1 HH.out.cell).1
  have hks := raw_lt HR.out
  have f1 := raw_free hr (i * 3 + 1)
  have f2 := raw_free hr (i * 3 + 2)
  have r2 : W2.cell? ⟨k, i * 3 + 2, none⟩ = some L[i].x := (raw_cell hr (by omega)).trans (flat_get L i hi).2.2
  have r1 : W2.cell? ⟨k, i * 3 + 1, none⟩ = some (.bool L[i].has) := (raw_cell hr (by omega)).trans (flat_get L i hi).2.1
  rw [hh] at r1
  have b1 := cells_at hcell 1
  have b2 := cells_at hcell 2
  have d1 := free_at hcell 1
  have d2 := free_at hcell 2
  have e0 := cells_at ha 0
  simp only [List.getElem?_toArray, List.getElem?_cons_succ, List.getElem?_cons_zero] at b1 b2 e0
  obtain ⟨m, hm⟩ : ∃ m, m = cnt (L.set i ⟨L[i].gen, false, .int .i64 0⟩) := ⟨_, rfl⟩
  have hcnt : cnt L = m + 1 := by
    have := cnt_set L i hi ⟨L[i].gen, false, .int .i64 0⟩
    simp [hh] at this; omega
  have hw : IntKind.i64.wrap (m : Int) = m := by
    have := cnt_le L
    have := HH.out.len
    exact IntWalk.i64_in _ (by omega)
  rw [hcnt] at b1
  rw [← HX.out] at r2
  -- region 6, 7: has, x, n
  obtain ⟨W5, hW5⟩ : ∃ W5, W5 = ((W2.setCell ⟨k, i * 3 + 1, none⟩ (.bool false)).setCell ⟨k, i * 3 + 2, none⟩ (.int .i64 0)).setCell ⟨c, 1, none⟩ (.int .i64 m) := ⟨_, rfl⟩
  have hr5 : Raw 61 W5 k L.length cap (flat (L.set i ⟨L[i].gen, false, .int .i64 0⟩)) := by
    have := raw_other (raw_set (raw_set hr (i * 3 + 1) (.bool false)) (i * 3 + 2) (.int .i64 0)) hkc 1 (.int .i64 m)
    rw [flat_setHX L i hi, ← hW5] at this
    exact this
  have hc5 : W5.heap[c]? = some (.cells #[.slice (some ⟨k, 0, none⟩) L.length cap, .int .i64 m, .int .i64 low] 59 (0, 0)) := by
    rw [hW5, setCell_block (by rw [Below.heap_setCell _ _ _ _ (by simpa using (Ne.symm hkc)), Below.heap_setCell _ _ _ _ (by simpa using (Ne.symm hkc))]; exact hcell)]
    simp
  have ha5 : W5.heap[w.heap.size]? = some (.cells #[.int .i64 i, .int .i64 n] 27 (0, 0)) := by
    rw [hW5, Below.heap_setCell _ _ _ _ (by simp; omega), Below.heap_setCell _ _ _ _ (by simp; omega), Below.heap_setCell _ _ _ _ (by simp; omega)]; exact ha
  have K5 : Keeps (fun j => j = c ∨ some j = some k) w W5 := hW5 ▸ (((K3.mono (fun _ _ h => h.elim)).setCell (.inl (.inr rfl)) _).setCell (.inl (.inr rfl)) _).setCell (.inl (.inl rfl)) _
  have H5 := hidp (And.intro hr5 (And.intro hc5 (And.intro ha5 K5)))
  have HW := hidp hW5
  have HM := hidp hm
  have HLe := hidp (And.intro HH.out.le (And.intro HH.out.len HH.out.els))
  clear hr5 hc5 ha5 K5 hW5 hr hcell ha K2 K3 HC HK HH HR HA HX hk' hh hcnt hm
  go_wp2
  rw [← HW.out]
  obtain ⟨hr5, hc5, ha5, K5⟩ := H5.out
  have b2 := cells_at hc5 2
  have e0 := cells_at ha5 0
  have d2 := free_at hc5 2
  simp only [List.getElem?_toArray, List.getElem?_cons_succ, List.getElem?_cons_zero] at b2 e0
  clear hr5 hc5 ha5 K5 f1 f2 r1 r2 b1 d1 hw HW
  by_cases hl : i < low
  all_goals
    go_still_tail 10, (by kernel_rfl)
    change wpList _ _ _ _ _ W5.drew
    obtain ⟨W6, hW6⟩ : ∃ W6, W6 = W5.drew := ⟨_, rfl⟩
    rw [← hW6]
    have K6 := (H5.out.2.2.2).drew
    rw [← hW6] at K6
    have hh : W6.heap = W5.heap := by rw [hW6]; rfl
    obtain ⟨hr5, hc5, -, -⟩ := H5.out
    rw [← hh] at hc5
    have hr6 : Raw 61 W6 k L.length cap (flat (L.set i ⟨L[i].gen, false, .int .i64 0⟩)) := by
      obtain ⟨cur, h2, h3⟩ := hr5
      exact ⟨cur, by rw [hh]; exact h2, h3⟩
    have d2 := free_at hc5 2
    have b6 := cells_at hc5 2
    simp only [List.getElem?_toArray, List.getElem?_cons_succ, List.getElem?_cons_zero] at b6
    have hfin : ∀ u : Int, u = (if i < low then (i : Int) else low) → Did_i w c (some k) (L.set i ⟨L[i].gen, false, .int .i64 0⟩) (W6.setCell ⟨c, 2, none⟩ (.int .i64 u)) := by
      intro u hu
      subst hu
      refine ⟨.slice (some ⟨k, 0, none⟩) L.length cap, some k, (if i < low then i else low), ⟨?_, raw_row (n := L.length) hkc (List.length_set ..).symm (raw_other hr6 hkc _ _), min_low HLe.out.1 hi _, by simpa using HLe.out.2.1, ?_⟩, .inl rfl, K6.setCell (.inl (.inl rfl)) _⟩
      · rw [setCell_block hc5]
        rw [← HM.out]
        by_cases hl' : i < low <;> simp [hl']
      · intro d hd
        rcases List.mem_or_eq_of_mem_set hd with h | h
        · exact HLe.out.2.2 d h
        · exact ⟨_, by rw [h]⟩
    have HF := hidp hfin
    clear hfin hW6 K6 hh hr5 hc5 hr6 H5 HLe HM b2 e0
    go_wp2
    go_ret2
    exact ⟨rfl, HF.out _ (by simp [hl])⟩

theorem dropyes_s {w : World} {c : Nat} {v : Value} {g : Option Nat} {L : List Cl} {low : Nat} (h : SL_s w c v g L low) (s n : Int) (i : Nat) (hi : i < L.length) (hit : Hit L s n i) :
    Calls Try.prog 25 #[.pointer (some ⟨c, 0, none⟩), .agg #[.int .i64 s, .int .i64 n]] w fun e w' => e = .returned (.tuple #[L[i].x, .bool true]) ∧ Did_s w c g (L.set i ⟨L[i].gen, false, .string ⟨#[]⟩⟩) w' := by
  obtain ⟨_, hs, hh, hn⟩ := hit
  subst hs
  have K0 := (Keeps.refl (fun _ => False) w).alloc (.cells #[.int .i64 i, .int .i64 n] 27)
  have h0 := h.keep K0 (by simp) (by simp)
  obtain ⟨k, cap, rfl, rfl, hkc, hraw⟩ := row_raw h.row hi
  have a0 : (w.alloc (.cells #[.int .i64 i, .int .i64 n] 27)).heap[w.heap.size]? = _ := heap_alloc_new w _
  have HC := hidp (cellyes_s h0 i n i rfl hi hh hn)
  have HK := hidp K0
  have HH := hidp h
  have HR := hidp hraw
  have HA := hidp a0
  clear h h0 K0 hn hraw a0
  obtain ⟨X, hX⟩ : ∃ X, X = L[i].x := ⟨_, rfl⟩
  rw [← hX]
  have HX := hidp hX
  clear hX
  go_enter Try.func25, Try.ntmps25
  go_wp2_with fail
  refine HC.out.mono ?_
  rintro e W2 ⟨⟨k', hk', rfl⟩, K2⟩
  obtain rfl : k = k' := by simpa using hk'
  have K3 := HK.out.trans K2
  have hr := raw_keep HR.out K3 (by simp)
  have hcell := (K3.block c (Array.getElem?_eq_some_iff.1 HH.out.cell).1 (by simp)).trans HH.out.cell
  have ha := (K2.block w.heap.size (by simp) (by simp)).trans HA.out
  have hcs := (Array.getElem?_eq_some_iff.1 HH.out.cell).1
  have hks := raw_lt HR.out
  have f1 := raw_free hr (i * 3 + 1)
  have f2 := raw_free hr (i * 3 + 2)
  have r2 : W2.cell? ⟨k, i * 3 + 2, none⟩ = some L[i].x := (raw_cell hr (by omega)).trans (flat_get L i hi).2.2
  have r1 : W2.cell? ⟨k, i * 3 + 1, none⟩ = some (.bool L[i].has) := (raw_cell hr (by omega)).trans (flat_get L i hi).2.1
  rw [hh] at r1
  have b1 := cells_at hcell 1
  have b2 := cells_at hcell 2
  have d1 := free_at hcell 1
  have d2 := free_at hcell 2
  have e0 := cells_at ha 0
  simp only [List.getElem?_toArray, List.getElem?_cons_succ, List.getElem?_cons_zero] at b1 b2 e0
  obtain ⟨m, hm⟩ : ∃ m, m = cnt (L.set i ⟨L[i].gen, false, .string ⟨#[]⟩⟩) := ⟨_, rfl⟩
  have hcnt : cnt L = m + 1 := by
    have := cnt_set L i hi ⟨L[i].gen, false, .string ⟨#[]⟩⟩
    simp [hh] at this; omega
  have hw : IntKind.i64.wrap (m : Int) = m := by
    have := cnt_le L
    have := HH.out.len
    exact IntWalk.i64_in _ (by omega)
  rw [hcnt] at b1
  rw [← HX.out] at r2
  -- region 6, 7: has, x, n
  obtain ⟨W5, hW5⟩ : ∃ W5, W5 = ((W2.setCell ⟨k, i * 3 + 1, none⟩ (.bool false)).setCell ⟨k, i * 3 + 2, none⟩ (.string ⟨#[]⟩)).setCell ⟨c, 1, none⟩ (.int .i64 m) := ⟨_, rfl⟩
  have hr5 : Raw 76 W5 k L.length cap (flat (L.set i ⟨L[i].gen, false, .string ⟨#[]⟩⟩)) := by
    have := raw_other (raw_set (raw_set hr (i * 3 + 1) (.bool false)) (i * 3 + 2) (.string ⟨#[]⟩)) hkc 1 (.int .i64 m)
    rw [flat_setHX L i hi, ← hW5] at this
    exact this
  have hc5 : W5.heap[c]? = some (.cells #[.slice (some ⟨k, 0, none⟩) L.length cap, .int .i64 m, .int .i64 low] 74 (0, 0)) := by
    rw [hW5, setCell_block (by rw [Below.heap_setCell _ _ _ _ (by simpa using (Ne.symm hkc)), Below.heap_setCell _ _ _ _ (by simpa using (Ne.symm hkc))]; exact hcell)]
    simp
  have ha5 : W5.heap[w.heap.size]? = some (.cells #[.int .i64 i, .int .i64 n] 27 (0, 0)) := by
    rw [hW5, Below.heap_setCell _ _ _ _ (by simp; omega), Below.heap_setCell _ _ _ _ (by simp; omega), Below.heap_setCell _ _ _ _ (by simp; omega)]; exact ha
  have K5 : Keeps (fun j => j = c ∨ some j = some k) w W5 := hW5 ▸ (((K3.mono (fun _ _ h => h.elim)).setCell (.inl (.inr rfl)) _).setCell (.inl (.inr rfl)) _).setCell (.inl (.inl rfl)) _
  have H5 := hidp (And.intro hr5 (And.intro hc5 (And.intro ha5 K5)))
  have HW := hidp hW5
  have HM := hidp hm
  have HLe := hidp (And.intro HH.out.le (And.intro HH.out.len HH.out.els))
  clear hr5 hc5 ha5 K5 hW5 hr hcell ha K2 K3 HC HK HH HR HA HX hk' hh hcnt hm
  go_wp2
  rw [← HW.out]
  obtain ⟨hr5, hc5, ha5, K5⟩ := H5.out
  have b2 := cells_at hc5 2
  have e0 := cells_at ha5 0
  have d2 := free_at hc5 2
  simp only [List.getElem?_toArray, List.getElem?_cons_succ, List.getElem?_cons_zero] at b2 e0
  clear hr5 hc5 ha5 K5 f1 f2 r1 r2 b1 d1 hw HW
  by_cases hl : i < low
  all_goals
    go_still_tail 10, (by kernel_rfl)
    change wpList _ _ _ _ _ W5.drew
    obtain ⟨W6, hW6⟩ : ∃ W6, W6 = W5.drew := ⟨_, rfl⟩
    rw [← hW6]
    have K6 := (H5.out.2.2.2).drew
    rw [← hW6] at K6
    have hh : W6.heap = W5.heap := by rw [hW6]; rfl
    obtain ⟨hr5, hc5, -, -⟩ := H5.out
    rw [← hh] at hc5
    have hr6 : Raw 76 W6 k L.length cap (flat (L.set i ⟨L[i].gen, false, .string ⟨#[]⟩⟩)) := by
      obtain ⟨cur, h2, h3⟩ := hr5
      exact ⟨cur, by rw [hh]; exact h2, h3⟩
    have d2 := free_at hc5 2
    have b6 := cells_at hc5 2
    simp only [List.getElem?_toArray, List.getElem?_cons_succ, List.getElem?_cons_zero] at b6
    have hfin : ∀ u : Int, u = (if i < low then (i : Int) else low) → Did_s w c (some k) (L.set i ⟨L[i].gen, false, .string ⟨#[]⟩⟩) (W6.setCell ⟨c, 2, none⟩ (.int .i64 u)) := by
      intro u hu
      subst hu
      refine ⟨.slice (some ⟨k, 0, none⟩) L.length cap, some k, (if i < low then i else low), ⟨?_, raw_row (n := L.length) hkc (List.length_set ..).symm (raw_other hr6 hkc _ _), min_low HLe.out.1 hi _, by simpa using HLe.out.2.1, ?_⟩, .inl rfl, K6.setCell (.inl (.inl rfl)) _⟩
      · rw [setCell_block hc5]
        rw [← HM.out]
        by_cases hl' : i < low <;> simp [hl']
      · intro d hd
        rcases List.mem_or_eq_of_mem_set hd with h | h
        · exact HLe.out.2.2 d h
        · exact ⟨_, by rw [h]⟩
    have HF := hidp hfin
    clear hfin hW6 K6 hh hr5 hc5 hr6 H5 HLe HM b2 e0
    go_wp2
    go_ret2
    exact ⟨rfl, HF.out _ (by simp [hl])⟩
end Go.Proofs.Ytnhcejbgkhhijaa
