/- The document's slab: Drop, Put. -/
import Derived.Test.YtnhcejbgkhhijaaRef1
import Derived.Deep.Cut
namespace Go.Proofs.Ytnhcejbgkhhijaa
open Go.RowKit Go.Pairs

theorem rdropno {w : World} {c : Nat} {v : Value} {g : Option Nat} {L : List Cl} (h : RF w c v g L) (s n : Int) (hno : ∀ i, ¬ Hit L s n i) :
    Calls Try.prog 17 #[.pointer (some ⟨c, 0, none⟩), .agg #[.int .i64 s, .int .i64 n]] w fun e w' => e = .returned (.tuple #[.int .i64 0, .bool false]) ∧ Keeps (fun _ => False) w w' := by
  have K0 := (Keeps.refl (fun _ => False) w).alloc (.cells #[.int .i64 s, .int .i64 n] 27)
  have h0 := h.keep K0 (by simp) (by simp)
  have HC := hidp (rgetno h0 s n hno)
  have HK := hidp K0
  have a0 : (w.alloc (.cells #[.int .i64 s, .int .i64 n] 27)).cell? ⟨w.heap.size, 0, none⟩ = some (.int .i64 s) := cells_at (heap_alloc_new w _) 0
  have a1 : (w.alloc (.cells #[.int .i64 s, .int .i64 n] 27)).cell? ⟨w.heap.size, 1, none⟩ = some (.int .i64 n) := cells_at (heap_alloc_new w _) 1
  clear h h0 K0 hno
  go_enter Try.func17, Try.ntmps17
  go_wp2_with fail
  refine HC.out.mono ?_
  rintro e W2 ⟨rfl, K2⟩
  have HK3 := hidp (HK.out.trans K2)
  clear K2 HK HC
  go_wp2
  go_ret2
  exact ⟨rfl, HK3.out⟩

theorem flat_setH (L : List Cl) (i : Nat) (h : i < L.length) (b : Bool) : (flat L).set (i * 3 + 1) (.bool b) = flat (L.set i ⟨L[i].gen, b, L[i].x⟩) := by
  rw [← flat_setHX L i h b L[i].x]
  refine (set_same ?_).symm
  rw [List.getElem?_set_ne (by omega)]
  exact (flat_get L i h).2.2

theorem rdropyes {w : World} {c : Nat} {v : Value} {g : Option Nat} {L : List Cl} (h : RF w c v g L) (s n : Int) (i : Nat) (hi : i < L.length) (hit : Hit L s n i) :
    Calls Try.prog 17 #[.pointer (some ⟨c, 0, none⟩), .agg #[.int .i64 s, .int .i64 n]] w fun e w' => e = .returned (.tuple #[L[i].x, .bool true]) ∧ DidR w c g (L.set i ⟨L[i].gen, false, L[i].x⟩) w' := by
  have K0 := (Keeps.refl (fun _ => False) w).alloc (.cells #[.int .i64 s, .int .i64 n] 27)
  have h0 := h.keep K0 (by simp) (by simp)
  have HC := hidp (rgetyes h0 s n i hi hit)
  obtain ⟨_, rfl, hh, hn⟩ := hit
  obtain ⟨k, cap, rfl, rfl, hkc, hraw⟩ := row_raw h.row hi
  have a0 : (w.alloc (.cells #[.int .i64 i, .int .i64 n] 27)).cell? ⟨w.heap.size, 0, none⟩ = some (.int .i64 i) := cells_at (heap_alloc_new w _) 0
  have a1 : (w.alloc (.cells #[.int .i64 i, .int .i64 n] 27)).cell? ⟨w.heap.size, 1, none⟩ = some (.int .i64 n) := cells_at (heap_alloc_new w _) 1
  have HA := hidp a0
  have HH := hidp h
  have HR := hidp hraw
  have HK := hidp K0
  clear h h0 K0 hn hraw
  obtain ⟨X, hX⟩ : ∃ X, X = L[i].x := ⟨_, rfl⟩
  rw [← hX] at HC ⊢
  have HX := hidp hX
  clear hX
  go_enter Try.func17, Try.ntmps17
  go_wp2_with fail
  refine HC.out.mono ?_
  rintro e W2 ⟨rfl, K2⟩
  have K3 := HK.out.trans K2
  have hr := raw_keep HR.out K3 (by simp)
  have fr := raw_free hr (i * 3 + 1)
  have r2 : W2.cell? ⟨k, i * 3 + 1, none⟩ = some (.bool L[i].has) := (raw_cell hr (by omega)).trans (flat_get L i hi).2.1
  have hcell := (K3.block c (Array.getElem?_eq_some_iff.1 HH.out.cell).1 (by simp)).trans HH.out.cell
  have c0 : W2.cell? ⟨c, 0, none⟩ = some (.slice (some ⟨k, 0, none⟩) L.length cap) := cells_at hcell 0
  have a0 := K2.cell HA.out (by simp)
  have hfin : ∀ m, DidR w c (some k) (L.set i ⟨L[i].gen, false, X⟩) ((W2.drewN m).setCell ⟨k, i * 3 + 1, none⟩ (.bool false)) := by
    intro m
    rw [HX.out]
    have hr : Raw 70 (W2.drewN m) k L.length cap (flat L) := hr
    have hcell : (W2.drewN m).heap[c]? = _ := hcell
    have K3 := keeps_drewN K3 m
    refine ⟨.slice (some ⟨k, 0, none⟩) L.length cap, some k, ⟨?_, raw_row (n := L.length) hkc (List.length_set ..).symm ?_, ?_, ?_⟩, .inl rfl, (K3.mono (fun _ _ h => h.elim)).setCell (.inl (.inr rfl)) _⟩
    · rw [Below.heap_setCell _ _ _ _ (by simpa using (Ne.symm hkc)), hcell]
    · have := raw_set hr (i * 3 + 1) (.bool false)
      rw [flat_setH L i hi] at this
      exact this
    · simpa using HH.out.len
    · intro d hd
      rcases List.mem_or_eq_of_mem_set hd with h | h
      · exact HH.out.els d h
      · rw [h]; exact HH.out.els L[i] (List.getElem_mem hi)
  have HF := hidp hfin
  have t2 : ((i : Int) < L.length) := by omega
  clear hfin hcell hr K2 K3 HC HK HH HR hh HA HX
  go_wp2_with fail
  go_still_tail 8, (by kernel_rfl)
  go_wp2
  go_ret2
  exact ⟨rfl, HF.out 1⟩

theorem info70 : (Try.prog.info? 70).map (fun i => (i.zero, i.size, i.bytes)) = some (some (.agg #[.int .i64 0, .bool false, .int .i64 0]), 3, 24) := by kernel_rfl

/-- before a slot is filled. -/
structure RReady (w : World) (c : Nat) (g : Option Nat) (P : List Cl) (k cap : Nat) (W : World) : Prop where
  raw : Raw 70 W k P.length cap (flat P)
  cell : W.heap[c]? = some (.cells #[.slice (some ⟨k, 0, none⟩) P.length cap] 39 (0, 0))
  kc : k ≠ c
  kw : k ≠ w.heap.size
  from_ : g = some k ∨ w.heap.size < k
  keeps : Keeps (fun j => j = c ∨ some j = g) w W
  res : W.heap[w.heap.size]? = some (.cells #[.int .i64 0, .int .i64 0] 27 (0, 0))

set_option maxHeartbeats 4000000 in
theorem rput {w : World} {c : Nat} {v : Value} {g : Option Nat} {L : List Cl} (h : RF w c v g L) (hgen : ∀ d ∈ L, d.gen ≤ 1000000) (hlen : L.length + 1 ≤ 1000000) (x : Int) :
    Calls Try.prog 14 #[.pointer (some ⟨c, 0, none⟩), Value.int .i64 x] w fun e w' => e = .returned (.agg #[.int .i64 (ff L), .int .i64 (putG L)]) ∧ DidR w c g (putL L (.int .i64 0) (Value.int .i64 x)) w' := by
  obtain ⟨i0, hi, hz0, hz1, hz2⟩ := info_parts info70
  have hcs := (Array.getElem?_eq_some_iff.1 h.cell).1
  have K0 := (Keeps.refl (fun j => j = c ∨ some j = g) w).alloc (.cells #[.int .i64 0, .int .i64 0] 27)
  have h1 := h.keep ((Keeps.refl (fun _ => False) w).alloc (.cells #[.int .i64 0, .int .i64 0] 27)) (by simp) (by simp)
  have a0 : (w.alloc (.cells #[.int .i64 0, .int .i64 0] 27)).heap[w.heap.size]? = _ := heap_alloc_new w _
  have hgc := (row_owns h.row).2
  have HE := hidp h.els
  have hgw : g ≠ some w.heap.size := by
    cases h.row with
    | none_ _ => simp
    | row k cap cur p1 p2 => have := (Array.getElem?_eq_some_iff.1 p2).1; simp; omega
  obtain ⟨W1, hW1⟩ : ∃ W1, W1 = w.alloc (.cells #[.int .i64 0, .int .i64 0] 27) := ⟨_, rfl⟩
  rw [← hW1] at K0 h1 a0
  have HA := hidp a0
  have HK := hidp K0
  have hW1s : W1.heap.size = w.heap.size + 1 := by rw [hW1]; simp
  clear h a0 K0
  obtain ⟨ao, cp, rfl⟩ := row_len h1.row
  have c0 : W1.cell? ⟨c, 0, none⟩ = some (.slice ao L.length cp) := cells_at h1.cell 0
  go_enter Try.func14, Try.ntmps14
  go_wp2
  rw [← hW1]
  clear hW1
  go_loopw [5] (fun i wr => wr = W1 ∧ ∃ k : Nat, k ≤ ff L ∧ i = .int .i64 k) (fun i _ => ff L - (intOf i).toNat)
  case atStart => exact ⟨rfl, 0, Nat.zero_le _, rfl⟩
  case round =>
    obtain ⟨rfl, lw, hle, rfl⟩ := hrel
    have hff := ff_le L
    by_cases hlt : lw < ff L
    · obtain ⟨k, cap, rfl, he, hc1, hc2, r0, r1, r2⟩ := row_read h1.row (show lw < L.length by omega)
      rw [ff_before L lw (by omega) hlt] at r1
      obtain ⟨rfl, rfl⟩ : ao = some ⟨k, 0, none⟩ ∧ cp = cap := by simpa using he
      have t1 : decide (lw < L.length) = true := by simp; omega
      have t2 : ((lw : Int) < L.length) := by omega
      have hw : IntKind.i64.wrap ((lw : Int) + 1) = lw + 1 := IntWalk.i64_in _ (by omega)
      clear h1 r0 r2 he
      go_wp2
      go_roundw
      case rel => exact ⟨by simp, lw + 1, by omega, by simp⟩
      case measure => simp [intOf]; omega
    · obtain rfl : lw = ff L := by omega
      obtain ⟨p, hp⟩ : ∃ p, p = ff L := ⟨_, rfl⟩
      have hpl : p ≤ L.length := by omega
      have HP := hidp hp
      by_cases hpl2 : p < L.length
      · obtain ⟨k, cap, rfl, he, hkc, hraw⟩ := row_raw h1.row (show ff L < L.length by omega)
        obtain ⟨rfl, rfl⟩ : ao = some ⟨k, 0, none⟩ ∧ cp = cap := by simpa using he
        have r1 : wr.cell? ⟨k, ff L * 3 + 1, none⟩ = some (.bool L[ff L].has) := (raw_cell hraw (by omega)).trans (flat_get L (ff L) (by omega)).2.1
        rw [ff_free L (by omega)] at r1
        rw [← hp] at r1
        have t1 : decide (p < L.length) = true := by simpa using hpl2
        have t2 : ((p : Int) == (L.length : Int)) = false := by simp; omega
        have t3 : ((p : Int) < L.length) := by omega
        obtain ⟨P, hPL, HFi, HR⟩ : ∃ P : List Cl, L.length = P.length ∧ Hid (Fill L P p (.int .i64 0) (Value.int .i64 x)) ∧ Hid (RReady w c (some k) P k cp wr) := by
          refine ⟨L, rfl, hidp (hp ▸ fill_in (by omega) _ _), hidp ⟨hraw, h1.cell, hkc, ?_, .inl rfl, HK.out, HA.out⟩⟩
          rintro rfl
          exact hgw rfl
        clear h1 hle hff hlt hraw HK HA hgw hgc he
        rw [← hp]
        rw [hPL] at t1 t2 t3
        have HPL := hidp hPL
        clear hp c0 hPL r1
        have hPl := HFi.out.lt
        have t4 : ((p : Int) < P.length) := by omega
        obtain ⟨G, hG⟩ : ∃ G, G = P[p].gen := ⟨_, rfl⟩
        have hkw := HR.out.kw
        have hkc := HR.out.kc
        obtain ⟨q1, q2, q3⟩ := flat_get P p hPl
        rw [← hG] at q1
        have r0 : wr.cell? ⟨k, p * 3, none⟩ = some (.int .i64 G) := (raw_cell HR.out.raw (by omega)).trans q1
        have r1 : wr.cell? ⟨k, p * 3 + 1, none⟩ = some (.bool P[p].has) := (raw_cell HR.out.raw (by omega)).trans q2
        rw [HFi.out.free] at r1
        obtain ⟨xv, r2⟩ : ∃ xv, wr.cell? ⟨k, p * 3 + 2, none⟩ = some xv := ⟨_, (raw_cell HR.out.raw (by omega)).trans q3⟩
        have b0 := cells_at HR.out.cell 0
        simp only [List.getElem?_toArray, List.getElem?_cons_zero] at b0
        have f0 := raw_free HR.out.raw (p * 3)
        have f1 := raw_free HR.out.raw (p * 3 + 1)
        have f2 := raw_free HR.out.raw (p * 3 + 2)
        have hGb : G ≤ 1000000 := by
          rw [hG]
          rcases HFi.out.els P[p] (List.getElem_mem hPl) with h | h
          · exact hgen _ h
          · rw [h]; exact Nat.zero_le _
        have hw1 : IntKind.i64.wrap ((G : Int) + 1) = G + 1 := IntWalk.i64_in _ (by omega)
        obtain ⟨W7, hW7⟩ : ∃ W7, W7 = ((wr.setCell ⟨k, p * 3, none⟩ (.int .i64 ((G : Int) + 1))).setCell ⟨k, p * 3 + 1, none⟩ (.bool true)).setCell ⟨k, p * 3 + 2, none⟩ (Value.int .i64 x) := ⟨_, rfl⟩
        have hr7 : Raw 70 W7 k P.length cp (flat (P.set p ⟨G + 1, true, Value.int .i64 x⟩)) := by
          have := raw_set (raw_set (raw_set HR.out.raw (p * 3) (.int .i64 ((G : Int) + 1))) (p * 3 + 1) (.bool true)) (p * 3 + 2) (Value.int .i64 x)
          rw [← hW7, show (G : Int) + 1 = ((G + 1 : Nat) : Int) by omega, flat_set P p hPl] at this
          exact this
        have hc7 : W7.heap[c]? = some (.cells #[.slice (some ⟨k, 0, none⟩) P.length cp] 39 (0, 0)) := by
          rw [hW7, Below.heap_setCell _ _ _ _ (by simpa using (Ne.symm hkc)), Below.heap_setCell _ _ _ _ (by simpa using (Ne.symm hkc)), Below.heap_setCell _ _ _ _ (by simpa using (Ne.symm hkc))]; exact HR.out.cell
        have ha7 : W7.heap[w.heap.size]? = some (.cells #[.int .i64 0, .int .i64 0] 27 (0, 0)) := by
          rw [hW7, Below.heap_setCell _ _ _ _ (by simp; omega), Below.heap_setCell _ _ _ _ (by simp; omega), Below.heap_setCell _ _ _ _ (by simp; omega)]; exact HR.out.res
        have hSk : (k = c ∨ some k = (some k)) ∨ w.heap.size ≤ k := by
          rcases HR.out.from_ with h | h
          · exact .inl (.inr h.symm)
          · exact .inr (Nat.le_of_lt h)
        have K7 : Keeps (fun j => j = c ∨ some j = (some k)) w W7 := hW7 ▸ ((HR.out.keeps.setCell hSk _).setCell hSk _).setCell hSk _
        have y0 := cells_at ha7 0
        have y1 := cells_at ha7 1
        have g0 := free_at ha7 0
        have g1 := free_at ha7 1
        have b7 := cells_at hc7 0
        simp only [List.getElem?_toArray, List.getElem?_cons_succ, List.getElem?_cons_zero] at y0 y1 b7
        have x0 : W7.cell? ⟨k, p * 3, none⟩ = some (.int .i64 ((G : Int) + 1)) := by
          rw [raw_cell hr7 (by omega), (flat_get (P.set p ⟨G + 1, true, Value.int .i64 x⟩) p (by simpa using hPl)).1]
          simp
        have hput := HFi.out.put
        have hgn := HFi.out.gen
        rw [← hG] at hput hgn
        have heq := HFi.out.eq
        have hfin : DidR w c (some k) (putL L (.int .i64 0) (Value.int .i64 x)) ((W7.setCell ⟨w.heap.size, 0, none⟩ (.int .i64 p)).setCell ⟨w.heap.size, 1, none⟩ (.int .i64 ((G : Int) + 1))) := by
          have hcw : c ≠ w.heap.size := by omega
          refine ⟨.slice (some ⟨k, 0, none⟩) P.length cp, some k, ⟨?_, ?_, ?_, ?_⟩, ?_, (K7.setCell (.inr (Nat.le_refl _)) _).setCell (.inr (Nat.le_refl _)) _⟩
          · rw [Below.heap_setCell _ _ _ _ hcw, Below.heap_setCell _ _ _ _ hcw, hc7]
          · rw [hput]
            exact raw_row hkc (List.length_set ..).symm (raw_other (raw_other hr7 hkw _ _) hkw _ _)
          · rw [hput]
            have := HFi.out.len
            simp; omega
          · rw [hput]
            intro d hd
            rcases List.mem_or_eq_of_mem_set hd with h | h
            · rcases HFi.out.els d h with h | h
              · exact HE.out d h
              · exact ⟨_, by rw [h]⟩
            · exact ⟨x, by rw [h]⟩
          · rcases HR.out.from_ with h | h
            · exact .inl h.symm
            · exact .inr ⟨k, rfl, Nat.le_of_lt h⟩
        have HF := hidp hfin
        have HW := hidp hW7
        rw [hW7] at x0 b7 y0 y1 g0 g1
        have HQ := hidp (And.intro heq hgn)
        clear heq hgn hG hfin hr7 hc7 ha7 K7 hSk hput HFi HR q1 q2 q3 hW7
        go_wp2_with fail
        rw [← HW.out] at y0 y1 ⊢
        rw [← HQ.out.1, HQ.out.2]
        exact bodyPost_ret (v := .agg #[.int .i64 p, .int .i64 ((G : Int) + 1)]) (by simp [results, Try.results14, go_sem, y0, y1]) rfl ⟨by simp, HF.out⟩
      · have hpe : p = L.length := by omega
        rw [← hp]
        have t1 : decide (p < L.length) = false := by simp; omega
        have t2 : ((p : Int) == (L.length : Int)) = true := by simp; omega
        obtain ⟨hown0, hob⟩ := row_owns h1.row
        have hff' : ff L = L.length := by omega
        have HFi := hidp (hp ▸ fill_new hff' (.int .i64 0) (Value.int .i64 x))
        have HOB := hidp hob
        have HO := hidp hown0
        have HC := hidp h1.cell
        have hcs4 : c < wr.heap.size := by omega
        have HSZ := hidp hW1s
        clear h1 hle hff hp hlt hgc hown0 hob hff' hpe hW1s
        go_wp2_with (at_builtin; refine wpList_append_own_at _ rfl _ _ 37 rfl 0 70 i0 (.agg #[.int .i64 0, .bool false, .int .i64 0]) 3 24 Try.underlying37 hi hz0 hz1 hz2 rfl (by decide) _ _ _ rfl (HO.out.alloc _) ⟨wr.heap.size, 0, none⟩ 1 1 [.int .i64 0, .bool false, .int .i64 0] rfl rfl (cell_three_new _ _ _ _ _) ?c2 ?c3 ?c4 ?c5 ?_)
        case c2 => intro u hu; simp at hu; rcases hu with rfl | rfl | rfl <;> rfl
        case c3 => unfold maxLen; omega
        case c4 => omega
        case c5 => simp
        intro v' w7 hown7 hgr7 hnil7 hloc7
        have hW1s := HSZ.out
        obtain ⟨k, cap, rfl, hk1, hraw⟩ := owns_raw (by omega) hown7
        obtain ⟨ho1, ho2⟩ := HOB.out
        have K7 : Keeps (fun j => j = c ∨ some j = g) w w7 := (HK.out.alloc _).grown hgr7 (fun j hj => .inl (.inr (hj.symm.trans ho1)))
        have K8 : Keeps (fun j => some j = g) wr w7 := ((Keeps.refl _ _).alloc _).grown hgr7 (fun j hj => .inl (hj.symm.trans ho1))
        have hc7 := (K8.block c hcs4 (fun e => ho2 e.symm)).trans HC.out
        have hr7 := (K8.block w.heap.size (by have := (Array.getElem?_eq_some_iff.1 HA.out).1; exact this) (fun e => hgw e.symm)).trans HA.out
        have hcell0 := cells_at hc7 0
        have hfree0 := free_at hc7 0
        simp only [List.getElem?_toArray, List.getElem?_cons_zero] at hcell0
        have hkk : g = some k ∨ wr.heap.size < k := by
          rcases hloc7 with h | h
          · exact .inl (by rw [← ho1, ← h, hk1])
          · refine .inr ?_
            rw [hk1] at h
            simp at h; omega
        have hkc : k ≠ c := by
          rintro rfl
          rcases hkk with h | h
          · exact ho2 h
          · omega
        have hR : RReady w c g (L ++ [⟨0, false, .int .i64 0⟩]) k cap (w7.setCell ⟨c, 0, none⟩ (.slice (some ⟨k, 0, none⟩) (L.length + 1) cap)) := by
          have hsz := (Array.getElem?_eq_some_iff.1 HA.out).1
          refine ⟨?_, ?_, hkc, ?_, ?_, K7.setCell (.inl (.inl rfl)) _, ?_⟩
          · have := raw_other hraw hkc 0 (.slice (some ⟨k, 0, none⟩) (L.length + 1) cap)
            rw [flat_snoc]
            simpa using this
          · rw [setCell_block hc7]
            simp
          · rintro rfl
            rcases hkk with h | h
            · exact hgw h
            · omega
          · rcases hkk with h | h
            · exact .inl h
            · exact .inr (by omega)
          · rw [Below.heap_setCell _ _ _ _ (by simp; omega)]; exact hr7
        obtain ⟨P, HFi, HR⟩ : ∃ P, Hid (Fill L P p (.int .i64 0) (Value.int .i64 x)) ∧ Hid (RReady w c g P k cap (w7.setCell ⟨c, 0, none⟩ (.slice (some ⟨k, 0, none⟩) (L.length + 1) cap))) := ⟨_, HFi, hidp hR⟩
        clear hR hkc hkk hr7 hc7 K8 K7 ho1 ho2 hk1 hraw hloc7 hnil7 hgr7 hown7 HOB HC HK hgw HA HO
        go_upto_region 6 with (fail)
        obtain ⟨W5, hW5⟩ : ∃ W5, W5 = w7.setCell ⟨c, 0, none⟩ (.slice (some ⟨k, 0, none⟩) (L.length + 1) cap) := ⟨_, rfl⟩
        rw [← hW5] at HR ⊢
        clear hW5 c0 t1 t2 hcell0 hfree0
        have hPl := HFi.out.lt
        have t4 : ((p : Int) < P.length) := by omega
        obtain ⟨G, hG⟩ : ∃ G, G = P[p].gen := ⟨_, rfl⟩
        have hkw := HR.out.kw
        have hkc := HR.out.kc
        obtain ⟨q1, q2, q3⟩ := flat_get P p hPl
        rw [← hG] at q1
        have r0 : W5.cell? ⟨k, p * 3, none⟩ = some (.int .i64 G) := (raw_cell HR.out.raw (by omega)).trans q1
        obtain ⟨hb, r1⟩ : ∃ hb, W5.cell? ⟨k, p * 3 + 1, none⟩ = some (.bool hb) := ⟨_, (raw_cell HR.out.raw (by omega)).trans q2⟩
        obtain ⟨xv, r2⟩ : ∃ xv, W5.cell? ⟨k, p * 3 + 2, none⟩ = some xv := ⟨_, (raw_cell HR.out.raw (by omega)).trans q3⟩
        have b0 := cells_at HR.out.cell 0
        simp only [List.getElem?_toArray, List.getElem?_cons_zero] at b0
        have f0 := raw_free HR.out.raw (p * 3)
        have f1 := raw_free HR.out.raw (p * 3 + 1)
        have f2 := raw_free HR.out.raw (p * 3 + 2)
        have hGb : G ≤ 1000000 := by
          rw [hG]
          rcases HFi.out.els P[p] (List.getElem_mem hPl) with h | h
          · exact hgen _ h
          · rw [h]; exact Nat.zero_le _
        have hw1 : IntKind.i64.wrap ((G : Int) + 1) = G + 1 := IntWalk.i64_in _ (by omega)
        obtain ⟨W7, hW7⟩ : ∃ W7, W7 = ((W5.setCell ⟨k, p * 3, none⟩ (.int .i64 ((G : Int) + 1))).setCell ⟨k, p * 3 + 1, none⟩ (.bool true)).setCell ⟨k, p * 3 + 2, none⟩ (Value.int .i64 x) := ⟨_, rfl⟩
        have hr7 : Raw 70 W7 k P.length cap (flat (P.set p ⟨G + 1, true, Value.int .i64 x⟩)) := by
          have := raw_set (raw_set (raw_set HR.out.raw (p * 3) (.int .i64 ((G : Int) + 1))) (p * 3 + 1) (.bool true)) (p * 3 + 2) (Value.int .i64 x)
          rw [← hW7, show (G : Int) + 1 = ((G + 1 : Nat) : Int) by omega, flat_set P p hPl] at this
          exact this
        have hc7 : W7.heap[c]? = some (.cells #[.slice (some ⟨k, 0, none⟩) P.length cap] 39 (0, 0)) := by
          rw [hW7, Below.heap_setCell _ _ _ _ (by simpa using (Ne.symm hkc)), Below.heap_setCell _ _ _ _ (by simpa using (Ne.symm hkc)), Below.heap_setCell _ _ _ _ (by simpa using (Ne.symm hkc))]; exact HR.out.cell
        have ha7 : W7.heap[w.heap.size]? = some (.cells #[.int .i64 0, .int .i64 0] 27 (0, 0)) := by
          rw [hW7, Below.heap_setCell _ _ _ _ (by simp; omega), Below.heap_setCell _ _ _ _ (by simp; omega), Below.heap_setCell _ _ _ _ (by simp; omega)]; exact HR.out.res
        have hSk : (k = c ∨ some k = g) ∨ w.heap.size ≤ k := by
          rcases HR.out.from_ with h | h
          · exact .inl (.inr h.symm)
          · exact .inr (Nat.le_of_lt h)
        have K7 : Keeps (fun j => j = c ∨ some j = g) w W7 := hW7 ▸ ((HR.out.keeps.setCell hSk _).setCell hSk _).setCell hSk _
        have y0 := cells_at ha7 0
        have y1 := cells_at ha7 1
        have g0 := free_at ha7 0
        have g1 := free_at ha7 1
        have b7 := cells_at hc7 0
        simp only [List.getElem?_toArray, List.getElem?_cons_succ, List.getElem?_cons_zero] at y0 y1 b7
        have x0 : W7.cell? ⟨k, p * 3, none⟩ = some (.int .i64 ((G : Int) + 1)) := by
          rw [raw_cell hr7 (by omega), (flat_get (P.set p ⟨G + 1, true, Value.int .i64 x⟩) p (by simpa using hPl)).1]
          simp
        have hput := HFi.out.put
        have hgn := HFi.out.gen
        rw [← hG] at hput hgn
        have heq := HFi.out.eq
        have hfin : DidR w c g (putL L (.int .i64 0) (Value.int .i64 x)) ((W7.setCell ⟨w.heap.size, 0, none⟩ (.int .i64 p)).setCell ⟨w.heap.size, 1, none⟩ (.int .i64 ((G : Int) + 1))) := by
          have hcw : c ≠ w.heap.size := by omega
          refine ⟨.slice (some ⟨k, 0, none⟩) P.length cap, some k, ⟨?_, ?_, ?_, ?_⟩, ?_, (K7.setCell (.inr (Nat.le_refl _)) _).setCell (.inr (Nat.le_refl _)) _⟩
          · rw [Below.heap_setCell _ _ _ _ hcw, Below.heap_setCell _ _ _ _ hcw, hc7]
          · rw [hput]
            exact raw_row hkc (List.length_set ..).symm (raw_other (raw_other hr7 hkw _ _) hkw _ _)
          · rw [hput]
            have := HFi.out.len
            simp; omega
          · rw [hput]
            intro d hd
            rcases List.mem_or_eq_of_mem_set hd with h | h
            · rcases HFi.out.els d h with h | h
              · exact HE.out d h
              · exact ⟨_, by rw [h]⟩
            · exact ⟨x, by rw [h]⟩
          · rcases HR.out.from_ with h | h
            · exact .inl h.symm
            · exact .inr ⟨k, rfl, Nat.le_of_lt h⟩
        have HF := hidp hfin
        have HW := hidp hW7
        rw [hW7] at x0 b7 y0 y1 g0 g1
        have HQ := hidp (And.intro heq hgn)
        clear heq hgn hG hfin hr7 hc7 ha7 K7 hSk hput HFi HR q1 q2 q3 hW7
        go_wp2_with fail
        rw [← HW.out] at y0 y1 ⊢
        rw [← HQ.out.1, HQ.out.2]
        exact bodyPost_ret (v := .agg #[.int .i64 p, .int .i64 ((G : Int) + 1)]) (by simp [results, Try.results14, go_sem, y0, y1]) rfl ⟨by simp, HF.out⟩
end Go.Proofs.Ytnhcejbgkhhijaa
