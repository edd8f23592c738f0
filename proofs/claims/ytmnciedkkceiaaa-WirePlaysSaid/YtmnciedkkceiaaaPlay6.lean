/- WirePlays: the walk. -/
import Derived.Test.YtmnciedkkceiaaaPlay7
import Derived.Test.YtmnciedkkceiaaaOpen
import Derived.Deep.CutRange
import Derived.Deep.RegionHeld3
import Derived.WalkKit
namespace Go.Proofs.Ytmnciedkkceiaaa
open Go.RowKit Go.Pairs

structure Opw where
  kind : Int
  at_ : Int
  x : Int
def IsOpw (w : World) (ao : Option Addr) (len : Nat) (E : Nat → Opw) : Prop :=
  ∀ i, i < len → ∃ b off, ao = some ⟨b, off, none⟩ ∧ w.cell? ⟨b, off + i * 3, none⟩ = some (.int .i64 (E i).kind) ∧ w.cell? ⟨b, off + i * 3 + 1, none⟩ = some (.int .i64 (E i).at_) ∧ w.cell? ⟨b, off + i * 3 + 2, none⟩ = some (.int .i64 (E i).x)
def IsRooms (w : World) (ro : Option Addr) (len : Nat) (Z : Nat → Int) : Prop :=
  ∀ i, i < len → ∃ b off, ro = some ⟨b, off, none⟩ ∧ w.cell? ⟨b, off + i, none⟩ = some (.int .i64 (Z i))

theorem first_zero (w : World) (oa : Option Addr) (c : Nat) (x : Int) : Calls Try.prog 17 #[.slice oa 0 c, .int .i64 x] w fun e w' => e = .returned (.tuple #[.int .i64 0, .int .i64 0, .int .i64 102]) ∧ w' = w := by
  go_enter Try.func17, Try.ntmps17
  go_wp2
  go_ret3
  exact ⟨rfl, rfl⟩
theorem reffirst_zero (w : World) (oa : Option Addr) (c : Nat) (x : Int) : Calls Try.prog 18 #[.slice oa 0 c, .int .i64 x] w fun e w' => e = .returned (.agg #[.int .i64 0, .int .i64 0, .int .i64 102]) ∧ Keeps (fun _ => False) w w' := by
  obtain ⟨rb, hrb⟩ : ∃ rb, rb = w.heap.size := ⟨_, rfl⟩
  obtain ⟨W1, hW1⟩ : ∃ W1, W1 = w.alloc (.cells #[.int .i64 0, .int .i64 0, .int .i64 0] 50) := ⟨_, rfl⟩
  have hr2 : W1.heap[rb]? = some (.cells #[.int .i64 0, .int .i64 0, .int .i64 0] 50 (0, 0)) := by rw [hW1, hrb]; exact heap_alloc_new _ _
  have K1 : Keeps (fun _ => False) w W1 := hW1 ▸ (Keeps.refl _ _).alloc _
  have HW := hidp (And.intro K1 (show w.heap.size ≤ rb by omega))
  have r0 := cells_at hr2 0
  have r1 := cells_at hr2 1
  have r2 := cells_at hr2 2
  have f0 := free_at hr2 0
  have f1 := free_at hr2 1
  have f2 := free_at hr2 2
  simp only [List.getElem?_toArray, List.getElem?_cons_zero, List.getElem?_cons_succ] at r0 r1 r2
  clear K1 hr2
  go_enter Try.func18, Try.ntmps18
  go_upto_region 1 with (fail)
  rw [← hW1]
  simp only [← hrb]
  clear hW1 hrb
  go_wp2
  go_loopw [5, 6] (fun ov iv wr => wr = W1 ∧ iv = .int .i64 0 ∧ ov = .bool false) (fun _ iv _ => 1)
  case atStart => exact ⟨rfl, rfl, rfl⟩
  case round =>
    obtain ⟨rfl, rfl, rfl⟩ := hrel
    go_wp2
    refine bodyPost_ret (v := .agg #[.int .i64 0, .int .i64 0, .int .i64 102]) (by simp [results, Try.results18, go_sem, r0, r1, r2]) rfl ?_
    exact ⟨rfl, ((HW.out.1.setCell (p := ⟨rb, 0, none⟩) (.inr HW.out.2) _).setCell (p := ⟨rb, 1, none⟩) (.inr HW.out.2) _).setCell (p := ⟨rb, 2, none⟩) (.inr HW.out.2) _⟩

theorem pvals_more (D : Dir) (n : Nat) (q : Option (Nat × Nat × Nat)) : pvals (fun j => if j = n then q else D j) (n + 1) = pvals D n ++ [pv (fun _ => q) 0] := by
  unfold pvals
  rw [List.range_succ, List.map_append]
  congr 1
  · apply List.map_congr_left
    intro i hi
    have : i ≠ n := by have := List.mem_range.1 hi; omega
    simp [pv, this]
  · simp [pv]
theorem qvals_more (D : Dir) (n : Nat) (q : Option (Nat × Nat × Nat)) : qvals (fun j => if j = n then q else D j) (n + 1) = qvals D n ++ [qv (fun _ => q) 0] := by
  unfold qvals
  rw [List.range_succ, List.map_append]
  congr 1
  · apply List.map_congr_left
    intro i hi
    have : i ≠ n := by have := List.mem_range.1 hi; omega
    simp [qv, this]
  · simp [qv]
theorem info22 : (Try.prog.info? 22).map (fun i => (i.zero, i.size, i.bytes)) = some (some (.pointer none), 1, 8) := by kernel_rfl
theorem info26 : (Try.prog.info? 26).map (fun i => (i.zero, i.size, i.bytes)) = some (some (.pointer none), 1, 8) := by kernel_rfl

set_option maxRecDepth 100000 in
set_option maxHeartbeats 8000000 in
theorem plays_yes (w : World) (ro ao : Option Addr) (rl rc len cap : Nat) (Z : Nat → Int) (E : Nat → Opw) (hZ : IsRooms w ro rl Z) (hE : IsOpw w ao len E) :
    Calls Try.prog 5 #[.slice ro rl rc, .slice ao len cap] w fun e w' => e = .returned (.bool true) ∧ Keeps (fun _ => False) w w' := by
  obtain ⟨i22, hi22, hz22, hs22, hb22⟩ := info_parts info22
  obtain ⟨i26, hi26, hz26, hs26, hb26⟩ := info_parts info26
  have HZ := hidp hZ
  have HE := hidp hE
  clear hZ hE
  go_enter Try.func5, Try.ntmps5
  go_upto_region 2 with (fail)
  go_cut [6] from 7 (fun wv W => wv = .slice none 0 0 ∧ W = w)
  case first =>
    go_wp2
    go_meet
    case rel => exact ⟨rfl, rfl⟩
  case rest =>
  obtain ⟨rfl, hww⟩ := hcut
  rw [hww]
  clear hww
  rename_i hk0
  refine hk0 _ _ ?_
  clear hk0
  refine wp_seq_k fun K2 hK2 => ?_
  go_cut [5, 6] from 7 (fun lv wv W => ∃ (n : Nat) (D : Dir) (S : Sit), n ≤ 6 ∧ Sta w W n lv (pvals D n) wv (qvals D n) D S S)
  case rest =>
    obtain ⟨n, D, S, hn6, hS⟩ := hcut
    obtain ⟨la, lc, hla, -⟩ := slice_of hS.rowL
    obtain ⟨wa, wc2, hwa, -⟩ := slice_of hS.rowW
    rw [pvals_len] at hla
    rw [qvals_len] at hwa
    subst hla hwa
    have HS := hidp hS
    clear hS
    refine hK2 _ _ ?_
    clear hK2
    go_wp2_with fail
    refine (awake_any _).mono ?_
    rintro e W2 ⟨rfl, K2'⟩
    have HS2 := hidp (HS.out.quiet K2')
    clear K2' HS
    go_wp2_with fail
    go_loopw [12] (fun iv wr => ∃ (k : Nat) (S : Sit), k ≤ len ∧ k ≤ 150 ∧ iv = .int .i64 k ∧ Sta w wr n (.slice la n lc) (pvals D n) (.slice wa n wc2) (qvals D n) D S S) (fun iv _ => 150 - (intOf iv).toNat)
    case atStart => exact ⟨0, S, Nat.zero_le _, by omega, rfl, HS2.out⟩
    case round =>
      obtain ⟨q, S, hql, hq150, rfl, hS⟩ := hrel
      have HS := hidp hS
      clear hS HS2
      by_cases hlt : q < len ∧ q < 150
      · obtain ⟨h1, h2⟩ := hlt
        have t1 : decide (q < len) = true := decide_eq_true h1
        have t1' : decide ((q : Int) < len) = true := decide_eq_true (by omega)
        have t2 : decide (q < 150) = true := decide_eq_true h2
        have t2' : decide ((q : Int) < 150) = true := decide_eq_true (by omega)
        have t3 : ((q : Int) < len) := by omega
        have hwq : IntKind.i64.wrap ((q : Int) + 1) = q + 1 := IntWalk.i64_in _ (by omega)
        obtain ⟨b, off, rfl, z0, z1, z2⟩ := HE.out q h1
        obtain ⟨⟨kd, at_, x⟩, ho⟩ : ∃ o, o = E q := ⟨_, rfl⟩
        rw [← ho] at z0 z1 z2
        have z0 := HS.out.1.cell z0 (by simp)
        have z1 := HS.out.1.cell z1 (by simp)
        have z2 := HS.out.1.cell z2 (by simp)
        simp only at z0 z1 z2
        obtain ⟨ob, hob⟩ : ∃ ob, ob = wr.heap.size := ⟨_, rfl⟩
        obtain ⟨W5, hW5⟩ : ∃ W5, W5 = wr.alloc (.cells #[.int .i64 kd, .int .i64 at_, .int .i64 x] 46) := ⟨_, rfl⟩
        have o5 : W5.heap[ob]? = some (.cells #[.int .i64 kd, .int .i64 at_, .int .i64 x] 46 (0, 0)) := by rw [hW5, hob]; exact heap_alloc_new _ _
        have K5 : Keeps (fun _ => False) wr W5 := hW5 ▸ (Keeps.refl _ _).alloc _
        have HS5 := hidp (HS.out.quiet K5)
        have HO := hidp o5
        clear HS ho K5 o5
        go_upto_region 18 with (fail)
        rw [← hW5]
        simp only [← hob]
        clear hW5 hob z0 z1 z2 t1 t1' t2 t2' t3
        have y0 : W5.cell? ⟨ob, 0, none⟩ = some (.int .i64 kd) := cells_at HO.out 0
        have y1 : W5.cell? ⟨ob, 1, none⟩ = some (.int .i64 at_) := cells_at HO.out 1
        have y2 : W5.cell? ⟨ob, 2, none⟩ = some (.int .i64 x) := cells_at HO.out 2
        by_cases hk3 : kd = 3
        · have c3 : (kd == 3) = true := by simpa using hk3
          by_cases hn0 : n = 0
          · as_aux_lemma =>
            subst hn0
            clear hk3
            have CF := hidp (first_zero W5 la lc x)
            have CR := hidp (reffirst_zero W5 wa wc2 x)
            go_wp2_with fail
            refine CF.out.mono ?_
            rintro e W6 ⟨rfl, rfl⟩
            clear CF
            go_wp2_with fail
            refine CR.out.mono ?_
            rintro e W7 ⟨rfl, K7⟩
            clear CR
            obtain ⟨gb, hgb⟩ : ∃ gb, gb = W7.heap.size := ⟨_, rfl⟩
            obtain ⟨W8, hW8⟩ : ∃ W8, W8 = W7.alloc (.cells #[.int .i64 0, .int .i64 0, .int .i64 102] 50) := ⟨_, rfl⟩
            have o8 : W8.heap[gb]? = some (.cells #[.int .i64 0, .int .i64 0, .int .i64 102] 50 (0, 0)) := by rw [hW8, hgb]; exact heap_alloc_new _ _
            have HS8 := hidp (Sta.quiet (HS5.out.quiet K7) (hW8 ▸ (Keeps.refl (fun _ => False) W7).alloc _))
            have v0 := cells_at o8 0
            have v1 := cells_at o8 1
            have v2 := cells_at o8 2
            simp only [List.getElem?_toArray, List.getElem?_cons_zero, List.getElem?_cons_succ] at v0 v1 v2
            clear o8
            go_upto_region 21 with (fail)
            rw [← hW8]
            simp only [← hgb]
            clear hW8 hgb
            go_wp2_with fail
            exact ⟨⟨q + 1, S, by omega, by omega, rfl, HS8.out⟩, by simp [intOf]; omega⟩
          · as_aux_lemma =>
            have hn : 0 < n := by omega
            have CF := hidp (first_walk HS5.out hn hn6 x)
            clear hk3 hn0
            go_wp2_with fail
            refine CF.out.mono ?_
            rintro e W6 ⟨a, y, er, Sp, rfl, hfp, hS6, h46⟩
            have HF6 := hidp (And.intro hfp hS6)
            have o6 := h46 _ _ _ HO.out
            have y2 : W6.cell? ⟨ob, 2, none⟩ = some (.int .i64 x) := cells_at o6 2
            have CR := hidp (reffirst_walk hS6 hn hn6 x)
            clear CF hfp hS6 h46 o6 y0 y1
            go_wp2_with fail
            refine CR.out.mono ?_
            rintro e W7 ⟨a', y', er', Sr, rfl, hfr, hS7⟩
            obtain ⟨e1, e2, e3, e4⟩ := first_one HF6.out.1 hfr
            subst e1 e2 e3 e4
            have HS7 := hidp hS7
            clear CR hfr HF6 hS7 y2
            obtain ⟨gb, hgb⟩ : ∃ gb, gb = W7.heap.size := ⟨_, rfl⟩
            obtain ⟨W8, hW8⟩ : ∃ W8, W8 = W7.alloc (.cells #[.int .i64 a, .int .i64 y, .int .i64 er] 50) := ⟨_, rfl⟩
            have o8 : W8.heap[gb]? = some (.cells #[.int .i64 a, .int .i64 y, .int .i64 er] 50 (0, 0)) := by rw [hW8, hgb]; exact heap_alloc_new _ _
            have HS8 := hidp (Sta.quiet (HS7.out) (hW8 ▸ (Keeps.refl (fun _ => False) W7).alloc _))
            have v0 := cells_at o8 0
            have v1 := cells_at o8 1
            have v2 := cells_at o8 2
            simp only [List.getElem?_toArray, List.getElem?_cons_zero, List.getElem?_cons_succ] at v0 v1 v2
            clear o8
            go_upto_region 21 with (fail)
            rw [← hW8]
            simp only [← hgb]
            clear hW8 hgb
            go_wp2_with fail
            exact ⟨⟨q + 1, Sp, by omega, by omega, rfl, HS8.out⟩, by simp [intOf]; omega⟩
        · have c3 : (kd == 3) = false := by simpa using hk3
          by_cases hn0 : n = 0
          · as_aux_lemma =>
            subst hn0
            clear hk3
            go_wp2_with fail
            exact ⟨⟨q + 1, S, by omega, by omega, rfl, HS5.out⟩, by simp [intOf]; omega⟩
          · have hn : 0 < n := by omega
            have hnn : ((n : Int) == 0) = false := by simp; omega
            have hni : ¬ (n : Int) = 0 := by omega
            obtain ⟨g, gc, g2, gc2, ela, ewa, hcl⟩ := HS5.out.cells hn
            obtain ⟨rfl, rfl⟩ : la = some ⟨g, 0, none⟩ ∧ lc = gc := by simpa using ela
            obtain ⟨rfl, rfl⟩ : wa = some ⟨g2, 0, none⟩ ∧ wc2 = gc2 := by simpa using ewa
            have HCL := hidp (fun Sp Sr w' (hS : Sta w w' n (.slice (some ⟨g, 0, none⟩) n lc) (pvals D n) (.slice (some ⟨g2, 0, none⟩) n wc2) (qvals D n) D Sp Sr) k (hk : k < n) => (show w'.cell? ⟨g, k, none⟩ = some (pv D k) ∧ w'.cell? ⟨g2, k, none⟩ = some (qv D k) from by
              obtain ⟨g3, c3, g4, c4, e1, e2, h5⟩ := hS.cells hn
              obtain ⟨rfl, -⟩ : g = g3 ∧ _ := by simpa using e1
              obtain ⟨rfl, -⟩ : g2 = g4 ∧ _ := by simpa using e2
              exact h5 w' hS k hk))
            obtain ⟨p1, p2, p3, p4⟩ := atN_lt at_ hn
            obtain ⟨k, hk⟩ : ∃ k, k = atN at_ n := ⟨_, rfl⟩
            rw [← hk] at p1 p2
            have p5 : IntKind.i64.wrap (at_.tmod n + n) = at_.tmod n + n := IntWalk.i64_in _ (by omega)
            have hk0 : (0 : Int) ≤ (k : Int) := by omega
            have hk1 : ((k : Int) < n) := by omega
            have hcc := HCL.out _ _ _ HS5.out k p1
            have hp := hcc.1
            have HQC := hidp hcc.2
            clear hk3 hn0 hcl ela ewa hk hcc
            cases hD : D k with
            | none =>
              as_aux_lemma =>
              have hpv : pv D k = .pointer none := by unfold pv; rw [hD]
              rw [hpv] at hp
              clear hD hpv
              go_wp2_with fail
              exact ⟨⟨q + 1, S, by omega, by omega, rfl, HS5.out⟩, by simp [intOf]; omega⟩
            | some v =>
              obtain ⟨c, d, room⟩ := v
              have hpv : pv D k = .pointer (some ⟨c, 0, none⟩) := by unfold pv; rw [hD]
              have hqv : qv D k = .pointer (some ⟨d, 0, none⟩) := by unfold qv; rw [hD]
              rw [hpv] at hp
              have HQ := hidp (show W5.cell? ⟨g2, k, none⟩ = some (.pointer (some ⟨d, 0, none⟩)) from by rw [← hqv]; exact HQC.out)
              have HD := hidp (And.intro hD (And.intro hpv hqv))
              clear hD hpv hqv HQC
              go_upto_region 26 with (fail)
              go_cut [19] from 65 to 228 (fun ok W => ok = .bool true ∧ W = W5)
              case first =>
                go_wp2
                go_meet
                case rel => exact ⟨rfl, rfl⟩
              case rest =>
              obtain ⟨rfl, hww⟩ := hcut
              rw [hww]
              clear hww
              rename_i hk0
              refine hk0 _ _ ?_
              clear hk0
              refine wp_seq_k fun K3 hK3 => ?_
              go_cut [19] from 65 to 228 (fun ok W => ok = .bool true ∧ ∃ S2, Sta w W n (.slice (some ⟨g, 0, none⟩) n lc) (pvals D n) (.slice (some ⟨g2, 0, none⟩) n wc2) (qvals D n) D S2 S2)
              case rest =>
                as_aux_lemma =>
                obtain ⟨rfl, S2, hS2⟩ := hcut
                refine hK3 _ _ ?_
                clear hK3 y0 y1 y2 hp HS5 HO HQ
                have hcl := HCL.out _ _ _ hS2 k p1
                rw [HD.out.2.1, HD.out.2.2] at hcl
                have hp1 := hcl.1
                have hp2 := hcl.2
                obtain ⟨gg, R, a, hch, -⟩ := hS2.ch p1 HD.out.1
                obtain ⟨rv, hrf, -⟩ := hS2.rf p1 HD.out.1
                obtain ⟨oa, cp, rfl⟩ := hrf.row.shape
                obtain ⟨bb, L, hbl⟩ : ∃ bb L, S2 k = (bb, L) := ⟨_, _, rfl⟩
                rw [hbl] at hch hrf
                simp only at hch hrf
                have d0 : wc.cell? ⟨d, 0, none⟩ = some (.slice oa L.length cp) := cells_at hrf.cell 0
                have d1 : wc.cell? ⟨d, 1, none⟩ = some (.int .i64 room) := cells_at hrf.cell 1
                have hl := hrf.len
                have hm := hrf.most
                have hwr : IntKind.i64.wrap ((room : Int) - L.length) = (room : Int) - L.length := IntWalk.i64_in _ (by omega)
                have u1 : ((L.length : Int) != L.length) = false := by simp
                have u2 : (((room : Int) - L.length) != ((room : Int) - L.length)) = false := by simp
                have hlen := fun n => (len_i (hch.keep (keeps_drewN (Keeps.refl (fun _ => False) wc) n) (by simp) (by simp))).mono fun e w' (h : e = _ ∧ _) => (⟨by rw [h.1, ints_len], h.2.symm⟩ : e = .returned (.int .i64 L.length) ∧ w' = wc.drewN n)
                have hroom := fun n => (room_i (hch.keep (keeps_drewN (Keeps.refl (fun _ => False) wc) n) (by simp) (by simp))).mono fun e w' (h : e = _ ∧ _) => (⟨by rw [h.1, ints_len], h.2⟩ : e = .returned (.int .i64 ((room : Int) - L.length)) ∧ ∃ m, w' = (wc.drewN n).drewN m)
                have HS2 := hidp hS2
                have HBL := hidp hbl
                clear hcl hch hrf hS2 hbl hl hm
                go_upto_region 36 with (fail)
                go_big_quiet (first | (go_at_call 8; exact Calls.quiet_of_same (hlen _)) | (go_at_call 9; exact Calls.quiet_of (hroom _)))
                have HF := hidp (fun m => HS2.out.quiet (keeps_drewN (Keeps.refl (fun _ => False) wc) m))
                clear hp1 hp2 d0 d1 hlen hroom
                go_wp2_with fail
                exact ⟨⟨q + 1, S2, by omega, by omega, rfl, HF.out _⟩, by simp [intOf]; omega⟩
              case first =>
                clear hK3
                go_upto_region 28 with (fail)
                clear y0
                have hq := HQ.out
                clear y1 c3
                by_cases h0 : kd = 0
                · as_aux_lemma =>
                  subst h0
                  obtain ⟨z, CS0⟩ := both_send HS5.out p1 HD.out.1 x
                  have CS := hidp CS0
                  clear CS0
                  go_upto_region 29 with (fail)
                  go_region_held3 (fun W => W.cell? ⟨g, k, none⟩ = some (.pointer (some ⟨c, 0, none⟩)) ∧ W.cell? ⟨g2, k, none⟩ = some (.pointer (some ⟨d, 0, none⟩)) ∧ W.cell? ⟨ob, 2, none⟩ = some (.int .i64 x)) (first | exact ⟨hp, hq, y2⟩ | exact HG.out | exact HJ.out.1) ((first
                    | (go_at_call 19; refine CS.out.mono ?_; rintro e W6 ⟨rfl, hh⟩; obtain ⟨S1, hat, CR0⟩ := hh.out; have HG := hidp (hat.three HO.out); have CR := hidp CR0; clear hh hat CR0)
                    | (go_at_call 20; refine CR.out.mono ?_; rintro e W7 ⟨rfl, hh⟩; have HJ := hidp (At7.four hh.out HO.out); clear hh)))
                  clear CS CR HG hp hq y2
                  go_wp2_with fail
                  go_meet
                  case rel => exact ⟨rfl, HJ.out.2⟩
                · have k0 : (kd == 0) = false := by simpa using h0
                  by_cases h1' : kd = 1
                  · as_aux_lemma =>
                    subst h1'
                    obtain ⟨y, z, CS0⟩ := both_recv HS5.out p1 HD.out.1
                    have CS := hidp CS0
                    clear CS0 y2 h0
                    go_wp2_with fail
                    refine CS.out.mono ?_
                    rintro e W6 ⟨rfl, hh⟩
                    obtain ⟨S1, hat, CR0⟩ := hh.out
                    have hq6 := hat.1.2
                    have CR := hidp CR0
                    clear hh hat CR0 CS hp hq
                    go_wp2_with fail
                    refine CR.out.mono ?_
                    rintro e W7 ⟨rfl, hh⟩
                    have HJ := hidp (At7.sta hh.out)
                    clear hh CR hq6
                    go_wp2_with fail
                    go_meet
                    case rel => exact ⟨rfl, HJ.out⟩
                  · have k1 : (kd == 1) = false := by simpa using h1'
                    by_cases h2' : kd = 2
                    · as_aux_lemma =>
                      subst h2'
                      obtain ⟨z, CS0⟩ := both_close HS5.out p1 HD.out.1
                      have CS := hidp CS0
                      clear CS0 h0 h1'
                      go_upto_region 35 with (fail)
                      go_region_held3 (fun W => W.cell? ⟨g, k, none⟩ = some (.pointer (some ⟨c, 0, none⟩)) ∧ W.cell? ⟨g2, k, none⟩ = some (.pointer (some ⟨d, 0, none⟩)) ∧ W.cell? ⟨ob, 2, none⟩ = some (.int .i64 x)) (first | exact ⟨hp, hq, y2⟩ | exact HG.out | exact HJ.out.1) ((first
                        | (go_at_call 23; refine CS.out.mono ?_; rintro e W6 ⟨rfl, hh⟩; obtain ⟨S1, hat, CR0⟩ := hh.out; have HG := hidp (hat.three HO.out); have CR := hidp CR0; clear hh hat CR0)
                        | (go_at_call 24; refine CR.out.mono ?_; rintro e W7 ⟨rfl, hh⟩; have HJ := hidp (At7.four hh.out HO.out); clear hh)))
                      clear CS CR HG hp hq y2
                      go_wp2_with fail
                      go_meet
                      case rel => exact ⟨rfl, HJ.out.2⟩
                    · as_aux_lemma =>
                      have k2 : (kd == 2) = false := by simpa using h2'
                      clear h0 h1' h2' hq
                      go_wp2_with fail
                      go_meet
                      case rel => exact ⟨rfl, S, HS5.out⟩
      · have hend : True := trivial
        by_cases h : q < len
        · as_aux_lemma =>
          have t1 : decide (q < len) = true := decide_eq_true h
          have t1' : decide ((q : Int) < len) = true := decide_eq_true (by omega)
          have t2 : decide (q < 150) = false := decide_eq_false (by omega)
          have t2' : decide ((q : Int) < 150) = false := decide_eq_false (by omega)
          clear hlt
          go_wp2
          go_ret
          exact ⟨rfl, HS.out.1⟩
        · as_aux_lemma =>
          have t1 : decide (q < len) = false := decide_eq_false h
          have t1' : decide ((q : Int) < len) = false := decide_eq_false (by omega)
          clear hlt
          go_wp2
          go_ret
          exact ⟨rfl, HS.out.1⟩
  case first =>
  clear hK2
  go_wp2
  go_loopw [5, 6, 7] (fun lv wv iv wr => ∃ (j : Nat) (D : Dir) (S : Sit), j ≤ rl ∧ j ≤ 6 ∧ iv = .int .i64 j ∧ Sta w wr j lv (pvals D j) wv (qvals D j) D S S) (fun _ _ iv _ => 6 - (intOf iv).toNat)
  case atStart => exact ⟨0, fun _ => none, fun _ => (false, []), Nat.zero_le _, by omega, rfl, sta_none w _ _ _⟩
  case round =>
    obtain ⟨j, D, S, hjl, hj6, rfl, hS⟩ := hrel
    obtain ⟨la, lc, rfl, -⟩ := slice_of hS.rowL
    obtain ⟨wa, wc', rfl, -⟩ := slice_of hS.rowW
    rw [pvals_len] at hS ⊢
    rw [qvals_len] at hS ⊢
    have HS := hidp hS
    clear hS
    by_cases hlt : j < rl ∧ j < 6
    · obtain ⟨h1, h2⟩ := hlt
      have t1 : decide (j < rl) = true := decide_eq_true h1
      have t1' : decide ((j : Int) < rl) = true := decide_eq_true (by omega)
      have t2 : decide (j < 6) = true := decide_eq_true h2
      have t2' : decide ((j : Int) < 6) = true := decide_eq_true (by omega)
      have t3 : ((j : Int) < rl) := by omega
      have hw : IntKind.i64.wrap ((j : Int) + 1) = j + 1 := IntWalk.i64_in _ (by omega)
      obtain ⟨b, off, rfl, hc0⟩ := HZ.out j h1
      have hc := HS.out.1.cell hc0 (by simp)
      obtain ⟨z, hz⟩ : ∃ z, z = Z j := ⟨_, rfl⟩
      rw [← hz] at hc
      have HCW := hidp (show ∀ W, Keeps (fun _ => False) w W → W.cell? ⟨b, off + j, none⟩ = some (.int .i64 z) from fun W hK => by rw [hz]; exact hK.cell hc0 (by simp))
      clear hz hc0
      by_cases hr : 1 ≤ z ∧ z ≤ 65536
      · have CN := hidp (newok_i wr z hr.1 hr.2)
        have HZR := hidp hr
        clear hr
        go_wp2_with fail
        refine CN.out.mono ?_
        rintro e W2 ⟨rfl, hch, K2, hsz⟩
        have hc2 := HCW.out W2 (HS.out.1.trans K2)
        have CR := hidp (refnew_ok W2 z HZR.out.1 HZR.out.2)
        have HCH := hidp (And.intro hch (And.intro K2 hsz))
        clear CN hch K2 hsz hc
        go_wp2_with fail
        refine CR.out.mono ?_
        rintro e W3 ⟨rfl, rfl⟩
        have K3 : Keeps (fun _ => False) W2 (W2.alloc (.cells #[.slice none 0 0, .int .i64 z, .bool false] 59)) := (Keeps.refl _ _).alloc _
        have hzn : ((z.toNat : Nat) : Int) = z := by have := HZR.out.1; omega
        have hrf : Rf (W2.alloc (.cells #[.slice none 0 0, .int .i64 z, .bool false] 59)) W2.heap.size (.slice none 0 0) z.toNat false [] := by
          refine ⟨?_, .inl ⟨rfl, rfl⟩, by simp [Value.ownBlock], by simp, by have := HZR.out.2; omega⟩
          rw [hzn]; exact heap_alloc_new W2 _
        have hst := HS.out.more (HCH.out.2.1.trans K3) (HCH.out.1.keep K3 (by simp) (by simp)) hrf (Nat.le_refl _) (by have := HCH.out.2.2; omega) (by have := HCH.out.2.2; omega)
        have HST := hidp hst
        obtain ⟨c, hcc⟩ : ∃ c, c = wr.heap.size := ⟨_, rfl⟩
        obtain ⟨d, hdd⟩ : ∃ d, d = W2.heap.size := ⟨_, rfl⟩
        obtain ⟨W4, hW4⟩ : ∃ W4, W4 = W2.alloc (.cells #[.slice none 0 0, .int .i64 z, .bool false] 59) := ⟨_, rfl⟩
        rw [← hcc, ← hdd, ← hW4] at HST
        rw [← hcc, ← hdd, ← hW4]
        clear K3 hzn hrf hst HCH CR hW4 hcc hdd hc2
        have KL : Keeps (fun _ => False) W4 (W4.alloc (.cells #[.pointer (some ⟨c, 0, none⟩)] 22)) := (Keeps.refl _ _).alloc _
        have SL := HST.out.quiet KL
        have hrow : (W4.alloc (.cells #[.pointer (some ⟨c, 0, none⟩)] 22)).ownsRow w.heap.size 22 1 (.slice la j lc) j (pvals D j) := by have := SL.rowL; rw [pvals_len] at this; exact this
        have hn1 := cell_one_new W4 (.pointer (some ⟨c, 0, none⟩)) 22
        have HL := hidp (And.intro SL (And.intro hrow hn1))
        have HB := hidp SL.1.size
        clear KL SL hrow hn1
        go_wp2_with (at_builtin; refine wpList_append_own_at _ rfl _ _ 43 rfl w.heap.size 22 i22 (.pointer none) 1 8 Try.underlying43 hi22 hz22 hs22 hb22 rfl (by decide) _ _ _ rfl HL.out.2.1 ⟨W4.heap.size, 0, none⟩ 1 1 _ rfl ?c1 HL.out.2.2 ?c2 ?c3 ?c4 ?c5 ?_)
        case c1 => rfl
        case c2 => intro u hu; simp at hu; subst hu; rfl
        case c3 => unfold maxLen; omega
        case c4 => omega
        case c5 => exact HB.out
        intro v5 W5 hown5 hgr5 hnil5 hloc5
        have S5 := HL.out.1.appL (by rw [pvals_len]; exact hown5) hgr5 (by rw [World.size_alloc]; exact hloc5)
        obtain ⟨la2, lc2, rfl, -⟩ := slice_of hown5
        have KW : Keeps (fun _ => False) W5 (W5.alloc (.cells #[.pointer (some ⟨d, 0, none⟩)] 26)) := (Keeps.refl _ _).alloc _
        have SW := S5.quiet KW
        have hrow2 : (W5.alloc (.cells #[.pointer (some ⟨d, 0, none⟩)] 26)).ownsRow w.heap.size 26 1 (.slice wa j wc') j (qvals D j) := by have := SW.rowW; rw [qvals_len] at this; exact this
        have hn2 := cell_one_new W5 (.pointer (some ⟨d, 0, none⟩)) 26
        have HL2 := hidp (And.intro SW (And.intro hrow2 hn2))
        have HB2 := hidp SW.1.size
        clear KW SW hrow2 hn2 S5 hown5 hgr5 hnil5 hloc5 HL HB
        go_wp2_with (at_builtin; refine wpList_append_own_at _ rfl _ _ 44 rfl w.heap.size 26 i26 (.pointer none) 1 8 Try.underlying44 hi26 hz26 hs26 hb26 rfl (by decide) _ _ _ rfl HL2.out.2.1 ⟨W5.heap.size, 0, none⟩ 1 1 _ rfl ?c1 HL2.out.2.2 ?c2 ?c3 ?c4 ?c5 ?_)
        case c1 => rfl
        case c2 => intro u hu; simp at hu; subst hu; rfl
        case c3 => unfold maxLen; omega
        case c4 => omega
        case c5 => exact HB2.out
        intro v6 W6 hown6 hgr6 hnil6 hloc6
        have S6 := HL2.out.1.appW (by rw [qvals_len]; exact hown6) hgr6 (by rw [World.size_alloc]; exact hloc6)
        obtain ⟨wa2, wc2, rfl, -⟩ := slice_of hown6
        have HF := hidp S6
        clear S6 hown6 hgr6 hnil6 hloc6 HL2 HB2
        go_wp2
        refine ⟨⟨j + 1, fun k => if k = j then some (c, d, z.toNat) else D k, upS S j (false, []), by omega, by omega, rfl, ?_⟩, by simp [intOf]; omega⟩
        rw [pvals_more D j (some (c, d, z.toNat)), qvals_more D j (some (c, d, z.toNat))]
        exact HF.out
      · have hr' : z < 1 ∨ 65536 < z := by omega
        have CN := hidp (newno_i wr z hr')
        have HZR := hidp hr'
        clear hr hr'
        go_wp2_with fail
        refine CN.out.mono ?_
        rintro e W2 ⟨rfl, rfl⟩
        have CR := hidp (refnew_no wr z HZR.out)
        clear CN
        go_wp2_with fail
        refine CR.out.mono ?_
        rintro e W3 ⟨rfl, rfl⟩
        have HST := hidp (HS.out.moreNil)
        obtain ⟨W4, hW4⟩ : ∃ W4, W4 = wr := ⟨_, rfl⟩
        rw [← hW4] at HST
        rw [← hW4]
        clear CR hW4 hc
        have KL : Keeps (fun _ => False) W4 (W4.alloc (.cells #[.pointer none] 22)) := (Keeps.refl _ _).alloc _
        have SL := HST.out.quiet KL
        have hrow : (W4.alloc (.cells #[.pointer none] 22)).ownsRow w.heap.size 22 1 (.slice la j lc) j (pvals D j) := by have := SL.rowL; rw [pvals_len] at this; exact this
        have hn1 := cell_one_new W4 (.pointer none) 22
        have HL := hidp (And.intro SL (And.intro hrow hn1))
        have HB := hidp SL.1.size
        clear KL SL hrow hn1
        go_wp2_with (at_builtin; refine wpList_append_own_at _ rfl _ _ 43 rfl w.heap.size 22 i22 (.pointer none) 1 8 Try.underlying43 hi22 hz22 hs22 hb22 rfl (by decide) _ _ _ rfl HL.out.2.1 ⟨W4.heap.size, 0, none⟩ 1 1 _ rfl ?c1 HL.out.2.2 ?c2 ?c3 ?c4 ?c5 ?_)
        case c1 => rfl
        case c2 => intro u hu; simp at hu; subst hu; rfl
        case c3 => unfold maxLen; omega
        case c4 => omega
        case c5 => exact HB.out
        intro v5 W5 hown5 hgr5 hnil5 hloc5
        have S5 := HL.out.1.appL (by rw [pvals_len]; exact hown5) hgr5 (by rw [World.size_alloc]; exact hloc5)
        obtain ⟨la2, lc2, rfl, -⟩ := slice_of hown5
        have KW : Keeps (fun _ => False) W5 (W5.alloc (.cells #[.pointer none] 26)) := (Keeps.refl _ _).alloc _
        have SW := S5.quiet KW
        have hrow2 : (W5.alloc (.cells #[.pointer none] 26)).ownsRow w.heap.size 26 1 (.slice wa j wc') j (qvals D j) := by have := SW.rowW; rw [qvals_len] at this; exact this
        have hn2 := cell_one_new W5 (.pointer none) 26
        have HL2 := hidp (And.intro SW (And.intro hrow2 hn2))
        have HB2 := hidp SW.1.size
        clear KW SW hrow2 hn2 S5 hown5 hgr5 hnil5 hloc5 HL HB
        go_wp2_with (at_builtin; refine wpList_append_own_at _ rfl _ _ 44 rfl w.heap.size 26 i26 (.pointer none) 1 8 Try.underlying44 hi26 hz26 hs26 hb26 rfl (by decide) _ _ _ rfl HL2.out.2.1 ⟨W5.heap.size, 0, none⟩ 1 1 _ rfl ?c1 HL2.out.2.2 ?c2 ?c3 ?c4 ?c5 ?_)
        case c1 => rfl
        case c2 => intro u hu; simp at hu; subst hu; rfl
        case c3 => unfold maxLen; omega
        case c4 => omega
        case c5 => exact HB2.out
        intro v6 W6 hown6 hgr6 hnil6 hloc6
        have S6 := HL2.out.1.appW (by rw [qvals_len]; exact hown6) hgr6 (by rw [World.size_alloc]; exact hloc6)
        obtain ⟨wa2, wc2, rfl, -⟩ := slice_of hown6
        have HF := hidp S6
        clear S6 hown6 hgr6 hnil6 hloc6 HL2 HB2
        go_wp2
        refine ⟨⟨j + 1, fun k => if k = j then none else D k, S, by omega, by omega, rfl, ?_⟩, by simp [intOf]; omega⟩
        rw [pvals_more D j (none), qvals_more D j (none)]
        exact HF.out
    · by_cases h : j < rl
      · have t1 : decide (j < rl) = true := decide_eq_true h
        have t1' : decide ((j : Int) < rl) = true := decide_eq_true (by omega)
        have t2 : decide (j < 6) = false := decide_eq_false (by omega)
        have t2' : decide ((j : Int) < 6) = false := decide_eq_false (by omega)
        clear hlt
        go_wp2
        go_meet
        case rel => exact ⟨j, D, S, hj6, HS.out⟩
      · have t1 : decide (j < rl) = false := decide_eq_false h
        have t1' : decide ((j : Int) < rl) = false := decide_eq_false (by omega)
        clear hlt
        go_wp2
        go_meet
        case rel => exact ⟨j, D, S, hj6, HS.out⟩
end Go.Proofs.Ytmnciedkkceiaaa
