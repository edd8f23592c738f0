/- SlabGathers: the walk. -/
import Derived.Test.YtnhcejbgkhhijaaGathersS
import Derived.Deep.Cut
namespace Go.Proofs.Ytnhcejbgkhhijaa
open Go.RowKit Go.Pairs

theorem info23 : (Try.prog.info? 23).map (fun i => (i.zero, i.size, i.bytes)) = some (some (.pointer none), 1, 8) := by kernel_rfl

set_option maxRecDepth 100000 in
set_option maxHeartbeats 4000000 in
theorem gathers_yes (w : World) (ao : Option Addr) (len cap : Nat) (U : Nat → Option Addr) (M C : Nat → Nat) (Z : Nat → Nat → Int) (drop : Int) (hb : len ≤ maxLen) (hZ : IsII w ao len U M C Z) :
    Calls Try.prog 6 #[.slice ao len cap, .int .i64 drop] w fun e w' => e = .returned (.bool true) ∧ Keeps (fun _ => False) w w' := by
  obtain ⟨i3, hi, hz0, hz1, hz2⟩ := info_parts info3
  obtain ⟨i23, hj, hy0, hy1, hy2⟩ := info_parts info23
  have HZ := hidp hZ
  clear hZ
  unfold maxLen at hb
  go_enter Try.func6, Try.ntmps6
  by_cases hlen : 20 < len
  · have t0 : decide ((20 : Int) < len) = true := by simp; omega
    go_wp2_with fail
    refine (awake_any w).mono ?_
    rintro e W1 ⟨rfl, K1⟩
    go_wp2_with fail
    go_ret
    exact ⟨rfl, K1⟩
  have t0 : decide ((20 : Int) < len) = false := by simp; omega
  go_wp2_with fail
  go_loopw [5, 6, 7] (fun av wv i wr => ∃ (k : Nat) (F : Nat → Prop) (ps : List (Option (Nat × List Cl))), k ≤ len ∧ ps.length = 2 * k ∧ i = .int .i64 k ∧ GS w wr F ps ps (gat ps) av wv) (fun _ _ i _ => len - (intOf i).toNat)
  case atStart => exact ⟨0, fun _ => False, [], Nat.zero_le _, rfl, rfl, GS.start w⟩
  case round =>
    obtain ⟨k, F, ps, hk, hps, rfl, hG⟩ := hrel
    have HPS := hidp hps
    clear hps
    by_cases hlt : k < len
    · obtain ⟨hM, ⟨b, off, rfl, hcell⟩, hin⟩ := HZ.out k hlt
      unfold maxLen at hM
      obtain ⟨ui, hui⟩ : ∃ u, u = U k := ⟨_, rfl⟩
      obtain ⟨n, hn⟩ : ∃ n, n = M k := ⟨_, rfl⟩
      obtain ⟨ci, hci⟩ : ∃ u, u = C k := ⟨_, rfl⟩
      obtain ⟨X, hX⟩ : ∃ u, u = Z k := ⟨_, rfl⟩
      rw [← hui, ← hn, ← hci] at hcell
      rw [← hui, ← hn, ← hX] at hin
      rw [← hn] at hM
      have HIN := hidp hin
      have x0 := hG.keeps.cell hcell (by simp)
      have HC := hidp hcell
      clear hui hn hci hX hin hcell
      have t1 : decide (k < len) = true := by simpa using hlt
      have t2 : ((k : Int) < len) := by omega
      have hw : IntKind.i64.wrap ((k : Int) + 1) = k + 1 := IntWalk.i64_in _ (by omega)
      have HG := hidp hG
      clear hG
      by_cases hn30 : 30 < n
      · have t3 : decide ((30 : Int) < n) = true := by simp; omega
        go_wp2_with fail
        refine (awake_any wr).mono ?_
        rintro e W1 ⟨rfl, K1⟩
        have HF := hidp (HG.out.keeps.trans K1)
        clear K1
        go_wp2_with fail
        go_ret
        exact ⟨rfl, HF.out⟩
      have t3 : decide ((30 : Int) < n) = false := by simp; omega
      go_wp2_with fail
      refine (ownnew_i w wr (bl F u5 u6) HG.out.keeps (fun k hk => (HG.out.bl k hk).2)).mono ?_
      rintro e W1 ⟨rfl, O1, K1⟩
      obtain ⟨s, hs⟩ : ∃ s, s = wr.heap.size := ⟨_, rfl⟩
      simp only [← hs] at O1 ⊢
      have G1 := HG.out.step O1.keeps K1
      have HS := hidp (And.intro O1 G1)
      clear O1 G1 K1 HG hs x0
      go_wp2_with fail
      go_loopw [9] (fun i wq => ∃ j : Nat, j ≤ n ∧ i = .int .i64 j ∧ Own_i w wq s (pb X drop j) (bl F u5 u6) ∧ GS w wq F ps ps (gat ps) u5 u6) (fun i _ => n - (intOf i).toNat)
      case atStart => exact ⟨0, Nat.zero_le _, rfl, HS.out⟩
      case round =>
        obtain ⟨j, hj', rfl, O2, G2⟩ := hrel
        have x0 := G2.keeps.cell HC.out (by simp)
        by_cases hjl : j < n
        · obtain ⟨b2, off2, rfl, hx⟩ := HIN.out j hjl
          have x1 := G2.keeps.cell hx (by simp)
          have t4 : decide (j < n) = true := by simpa using hjl
          have t5 : ((j : Int) < n) := by omega
          have hw2 : IntKind.i64.wrap ((j : Int) + 1) = j + 1 := IntWalk.i64_in _ (by omega)
          have hgen := pb_gens X drop j
          have hpl := pb_len X drop j
          obtain ⟨x, hxx⟩ : ∃ x, x = X j := ⟨_, rfl⟩
          rw [← hxx] at x1
          have HXX := hidp hxx
          have C2 := hidp (anyput O2 (fun d hd => by have := hgen d hd; omega) (by omega) x)
          have HO := hidp (And.intro O2 G2)
          clear O2 G2 hx hxx hgen hpl
          obtain ⟨P, hP⟩ : ∃ P, P = pb X drop j := ⟨_, rfl⟩
          rw [← hP] at C2 HO
          obtain ⟨hi9, hv9, hit9⟩ := hit_put P (.int .i64 0) (.int .i64 x)
          obtain ⟨p, hp⟩ : ∃ p, p = ff P := ⟨_, rfl⟩
          obtain ⟨gn, hgn⟩ : ∃ gn, gn = putG P := ⟨_, rfl⟩
          have hpb : pb X drop (j + 1) = pstep P x (decide ((j : Int) = drop)) (.int .i64 0) := by rw [hP, HXX.out]; rfl
          obtain ⟨Q, hQ⟩ : ∃ Q, Q = putL P (.int .i64 0) (.int .i64 x) := ⟨_, rfl⟩
          unfold pstep at hpb
          simp only [← hp, ← hgn, ← hQ] at C2 hi9 hv9 hit9 hpb
          have HPB := hidp hpb
          have HIT := hidp (show ∃ h : p < Q.length, Q[p] = ⟨gn, true, .int .i64 x⟩ ∧ Hit Q p gn p from ⟨hi9, hv9, hit9⟩)
          clear hP hi9 hv9 hit9 hp hgn hpb hQ HXX
          go_wp2_with fail
          refine C2.out.mono ?_
          rintro e W3 ⟨rfl, O3, S3⟩
          have G3 := HO.out.2.step O3.keeps S3.keeps
          have KA : Keeps (fun _ => False) W3 (W3.alloc (.cells #[.int .i64 p, .int .i64 gn] 27)) := (Keeps.refl _ _).alloc _
          have O4 := (O3.still KA).1
          have G4 := G3.quiet KA
          have a0 : (W3.alloc (.cells #[.int .i64 p, .int .i64 gn] 27)).cell? ⟨W3.heap.size, 0, none⟩ = some (.int .i64 p) := cells_at (heap_alloc_new W3 _) 0
          have a1 : (W3.alloc (.cells #[.int .i64 p, .int .i64 gn] 27)).cell? ⟨W3.heap.size, 1, none⟩ = some (.int .i64 gn) := cells_at (heap_alloc_new W3 _) 1
          have HS4 := hidp (And.intro O4 G4)
          clear O3 S3 G3 KA O4 G4 HO C2 x0 x1
          by_cases hd : (j : Int) = drop
          · have t6 : ((j : Int) == drop) = true := by simp [hd]
            have hdd : decide ((j : Int) = drop) = true := by simp [hd]
            have hpb := HPB.out
            rw [hdd] at hpb
            simp only [if_true] at hpb
            obtain ⟨hi9, hv9, hit9⟩ := HIT.out
            have C4 := owndrop_i HS4.out.1 p gn p hi9 hit9
            simp only [hv9] at C4
            rw [← hpb] at C4
            have C4 := hidp C4
            clear hd hdd hpb hi9 hv9 hit9 HIT HPB
            go_wp2_with fail
            refine C4.out.mono ?_
            rintro e W5 ⟨rfl, O5, K5⟩
            have HF := hidp (And.intro O5 (HS4.out.2.step O5.keeps K5))
            clear O5 K5 HS4 C4 a0 a1
            go_wp2_with fail
            go_roundw
            case rel => exact ⟨j + 1, by omega, by simp, HF.out⟩
            case measure => simp [intOf]; omega
          · have t6 : ((j : Int) == drop) = false := by simp [hd]
            have hdd : decide ((j : Int) = drop) = false := by simp [hd]
            have hpb := HPB.out
            rw [hdd] at hpb
            simp only [Bool.false_eq_true, if_false] at hpb
            rw [← hpb] at HS4
            clear hd hdd hpb HIT HPB
            go_wp2_with fail
            go_roundw
            case rel => exact ⟨j + 1, by omega, by simp, HS4.out⟩
            case measure => simp [intOf]; omega
        · obtain rfl : j = n := by omega
          have t4 : decide (j < j) = false := by simp
          have hll := pb_len X drop j
          have hfs := O2.slt
          obtain ⟨F', G3⟩ := G2.add O2 (by omega)
          have R3 := ownr_new (A := bl F' u5 u6) G3.keeps (fun k hk => (G3.bl k hk).2)
          have G4 := G3.quiet ((Keeps.refl (fun _ => False) wr).alloc (.cells #[.slice none 0 0] 39))
          have HS4 := hidp (And.intro R3 G4)
          obtain ⟨W5, hW5⟩ : ∃ W5, W5 = wr.alloc (.cells #[.slice none 0 0] 39) := ⟨_, rfl⟩
          obtain ⟨c2, hc2⟩ : ∃ c2, c2 = wr.heap.size := ⟨_, rfl⟩
          rw [← hW5] at HS4
          simp only [← hc2] at HS4
          clear O2 G2 R3 G3 G4 hll hfs HS
          go_wp2_with fail
          rw [← hW5]
          simp only [← hc2]
          clear hW5 hc2 x0 t4
          go_loopw [12] (fun i wr => ∃ q : Nat, q ≤ j ∧ i = .int .i64 q ∧ OwnR w wr c2 (rb X drop q) (bl F' u5 u6) ∧ GS w wr F' (ps ++ [some (s, pb X drop j)]) ps (gat ps) u5 u6) (fun i _ => j - (intOf i).toNat)
          case atStart => exact ⟨0, Nat.zero_le _, rfl, HS4.out⟩
          case round =>
            obtain ⟨q, hq, rfl, O2, G2⟩ := hrel
            clear HS4
            have x0 := G2.keeps.cell HC.out (by simp)
            by_cases hql : q < j
            · obtain ⟨b2, off2, rfl, hx⟩ := HIN.out q hql
              have x1 := G2.keeps.cell hx (by simp)
              have t4 : decide (q < j) = true := by simpa using hql
              have t5 : ((q : Int) < j) := by omega
              have hw2 : IntKind.i64.wrap ((q : Int) + 1) = q + 1 := IntWalk.i64_in _ (by omega)
              have hgen := rb_gens X drop q
              have hpl := rb_len X drop q
              obtain ⟨x, hxx⟩ : ∃ x, x = X q := ⟨_, rfl⟩
              rw [← hxx] at x1
              have C2 := hidp (ownr_put O2 (fun d hd => by have := hgen d hd; omega) (by omega) x)
              have HO := hidp (And.intro O2 G2)
              have HXX := hidp hxx
              clear O2 G2 hx hxx hgen hpl
              obtain ⟨P, hP⟩ : ∃ P, P = rb X drop q := ⟨_, rfl⟩
              rw [← hP] at C2 HO
              obtain ⟨hi9, hv9, hit9⟩ := hit_put P (.int .i64 0) (.int .i64 x)
              obtain ⟨p, hp⟩ : ∃ p, p = ff P := ⟨_, rfl⟩
              obtain ⟨gn, hgn⟩ : ∃ gn, gn = putG P := ⟨_, rfl⟩
              have hpb : rb X drop (q + 1) = pstep P x (decide ((q : Int) = drop)) (.int .i64 x) := by rw [hP, HXX.out]; rfl
              obtain ⟨Q, hQ⟩ : ∃ Q, Q = putL P (.int .i64 0) (.int .i64 x) := ⟨_, rfl⟩
              unfold pstep at hpb
              simp only [← hp, ← hgn, ← hQ] at C2 hi9 hv9 hit9 hpb
              have HPB := hidp hpb
              have HIT := hidp (show ∃ h : p < Q.length, Q[p] = ⟨gn, true, .int .i64 x⟩ ∧ Hit Q p gn p from ⟨hi9, hv9, hit9⟩)
              clear hP hi9 hv9 hit9 hp hgn hpb hQ HXX
              go_wp2_with fail
              refine C2.out.mono ?_
              rintro e W3 ⟨rfl, O3, S3⟩
              have G3 := HO.out.2.step O3.keeps S3
              have KA : Keeps (fun _ => False) W3 (W3.alloc (.cells #[.int .i64 p, .int .i64 gn] 27)) := (Keeps.refl _ _).alloc _
              have O4 := (O3.quiet KA).1
              have G4 := G3.quiet KA
              have a0 : (W3.alloc (.cells #[.int .i64 p, .int .i64 gn] 27)).cell? ⟨W3.heap.size, 0, none⟩ = some (.int .i64 p) := cells_at (heap_alloc_new W3 _) 0
              have a1 : (W3.alloc (.cells #[.int .i64 p, .int .i64 gn] 27)).cell? ⟨W3.heap.size, 1, none⟩ = some (.int .i64 gn) := cells_at (heap_alloc_new W3 _) 1
              have HS4 := hidp (And.intro O4 G4)
              clear O3 S3 G3 KA O4 G4 HO C2 x0 x1
              by_cases hd : (q : Int) = drop
              · have t6 : ((q : Int) == drop) = true := by simp [hd]
                have hdd : decide ((q : Int) = drop) = true := by simp [hd]
                have hpb := HPB.out
                rw [hdd] at hpb
                simp only [if_true] at hpb
                obtain ⟨hi9, hv9, hit9⟩ := HIT.out
                have C4 := ownr_drop HS4.out.1 p gn p hi9 hit9
                simp only [hv9] at C4
                rw [← hpb] at C4
                have C4 := hidp C4
                clear hd hdd hpb hi9 hv9 hit9 HIT HPB
                go_wp2_with fail
                refine C4.out.mono ?_
                rintro e W5 ⟨rfl, O5, K5⟩
                have HF := hidp (And.intro O5 (HS4.out.2.step O5.keeps K5))
                clear O5 K5 HS4 C4 a0 a1
                go_wp2_with fail
                go_roundw
                case rel => exact ⟨q + 1, by omega, by simp, HF.out⟩
                case measure => simp [intOf]; omega
              · have t6 : ((q : Int) == drop) = false := by simp [hd]
                have hdd : decide ((q : Int) = drop) = false := by simp [hd]
                have hpb := HPB.out
                rw [hdd] at hpb
                simp only [Bool.false_eq_true, if_false] at hpb
                rw [← hpb] at HS4
                clear hd hdd hpb HIT HPB
                go_wp2_with fail
                go_roundw
                case rel => exact ⟨q + 1, by omega, by simp, HS4.out⟩
                case measure => simp [intOf]; omega
            · obtain rfl : q = j := by omega
              have t4 : decide (q < q) = false := by simp
              have hnp : (pb X drop q).length ≤ q := pb_len X drop q
              have hsame := same_pb X drop q
              obtain ⟨P, hP⟩ : ∃ P, P = pb X drop q := ⟨_, rfl⟩
              obtain ⟨R, hR⟩ : ∃ R, R = rb X drop q := ⟨_, rfl⟩
              rw [← hP] at G2 hnp hsame
              rw [← hR] at O2 hsame
              have C5 := ownr_all O2
              rw [← same_all hsame] at C5
              obtain ⟨T, hT⟩ : ∃ T, T = its P P.length := ⟨_, rfl⟩
              have hTl : T.length ≤ 30 := by rw [hT]; have := its_len P P.length; omega
              have hval : vals P = T.map (·.2.2) := by rw [hT]; rfl
              rw [← hT] at C5
              have HC5 := hidp C5
              have HG2 := hidp G2
              have HV := hidp hval
              clear hP hR hsame C5 hT O2 G2 hnp hval
              go_wp2_with fail
              refine HC5.out.mono ?_
              rintro e W6 ⟨⟨o, rfl, hown6⟩, -, K6⟩
              have G6 := HG2.out.quiet K6
              obtain ⟨B, hB⟩ : ∃ B, B = wr.heap.size := ⟨_, rfl⟩
              rw [← hB] at hown6
              have hwo : ∀ k, o.ownBlock = some k → u6.ownBlock ≠ some k := by
                intro k h1 h2
                have := hown6.lt k h1
                have := HG2.out.want.lt k h2
                omega
              have HS6 := hidp (And.intro G6 (And.intro hown6 hwo))
              clear G6 hown6 hwo K6 HC5 HG2 x0 t4 hB
              go_wp2_with fail
              go_loopw [6, 15] (fun wv i wr => ∃ r : Nat, r ≤ T.length ∧ i = .int .i64 r ∧ GS w wr F' (ps ++ [some (s, P)]) ps (gat ps ++ (T.take r).map (·.2.2)) u5 wv ∧ wr.ownsRow B 54 3 o T.length (itc T) ∧ ∀ k, o.ownBlock = some k → wv.ownBlock ≠ some k) (fun _ i _ => T.length - (intOf i).toNat)
              case atStart => exact ⟨0, Nat.zero_le _, rfl, by simpa using HS6.out.1, HS6.out.2⟩
              case round =>
                obtain ⟨r, hr, rfl, G7, hown, hne⟩ := hrel
                obtain ⟨io, ic, rfl, hiog⟩ := slice_of hown
                by_cases hrl : r < T.length
                · obtain ⟨g, rfl, hBg⟩ := hiog (by omega)
                  have x1 : wr.cell? ⟨g, r * 3 + 2, none⟩ = some (.int .i64 T[r].2.2) := (hown.cellAt (r * 3 + 2) (by omega)).trans (itc_get T r hrl).2.2
                  obtain ⟨x, hx⟩ : ∃ x, x = T[r].2.2 := ⟨_, rfl⟩
                  rw [← hx] at x1
                  obtain ⟨zs, hzs⟩ : ∃ zs, zs = gat ps ++ (T.take r).map (·.2.2) := ⟨_, rfl⟩
                  rw [← hzs] at G7
                  have hzl : zs.length ≤ 1000000 := by
                    rw [hzs, List.length_append, List.length_map, List.length_take]
                    have := gat_len ps (fun c L hm => (G7.slabs c L (by simp [hm])).1)
                    have := HPS.out
                    omega
                  have hzs2 : gat ps ++ (T.take (r + 1)).map (·.2.2) = zs ++ [x] := by
                    rw [hzs, hx, List.take_succ_eq_append_getElem hrl, List.map_append, List.append_assoc]; rfl
                  obtain ⟨wa, wc, rfl, -⟩ := slice_of G7.want
                  have t4 : decide (r < T.length) = true := by simpa using hrl
                  have t5 : ((r : Int) < T.length) := by omega
                  have hw2 : IntKind.i64.wrap ((r : Int) + 1) = r + 1 := IntWalk.i64_in _ (by omega)
                  have HG7 := hidp G7
                  have HOW := hidp (And.intro hown hne)
                  have HZ2 := hidp hzs2
                  have hsz := G7.keeps.size
                  clear hx hzs G7 hown hne hzs2 HS6
                  go_wp2_with (at_builtin; refine wpList_append_own_at _ rfl _ _ 52 rfl w.heap.size 3 i3 (.int .i64 0) 1 8 Try.underlying52 hi hz0 hz1 hz2 rfl (by decide) _ _ _ rfl (HG7.out.want.alloc _) ⟨wr.heap.size, 0, none⟩ 1 1 [.int .i64 x] rfl rfl (cell_one_new _ _ _) ?c2 ?c3 ?c4 ?c5 ?_)
                  case c2 => intro u hu; simp at hu; subst hu; rfl
                  case c3 => unfold maxLen; omega
                  case c4 => omega
                  case c5 => simp; omega
                  intro v' w7 hown7 hgr7 hnil7 hloc7
                  obtain ⟨G8, K8⟩ := HG7.out.wantpush hown7 hgr7 (by simpa using hloc7)
                  have hrow8 := keeps_row K8 HOW.out.1 (fun k e e' => HOW.out.2 k e e'.symm)
                  have hne8 : ∀ k, (Value.slice (some ⟨g, 0, none⟩) T.length ic).ownBlock = some k → v'.ownBlock ≠ some k := by
                    intro k e e'
                    rcases hloc7 with h | h
                    · exact HOW.out.2 k e (by rw [← h]; exact e')
                    · rw [e'] at h
                      have := HOW.out.1.lt k e
                      simp at h; omega
                  obtain ⟨v1, v2, rfl, -⟩ := slice_of hown7
                  have HF := hidp (And.intro G8 (And.intro hrow8 hne8))
                  clear hown7 hgr7 hnil7 hloc7 G8 K8 hrow8 hne8 HG7 HOW x1
                  go_wp2_with fail
                  go_roundw
                  case rel => exact ⟨r + 1, by omega, by simp, by rw [HZ2.out]; exact HF.out.1, HF.out.2⟩
                  case measure => simp [intOf]; omega
                · obtain rfl : r = T.length := by omega
                  rw [List.take_length, ← HV.out] at G7
                  obtain ⟨aa, ac, rfl, -⟩ := slice_of G7.all
                  have t4 : decide (T.length < T.length) = false := by simp
                  have HG7 := hidp G7
                  have hsz := G7.keeps.size
                  have hpn : ps.length ≤ 40 := by have := HPS.out; omega
                  clear G7 hown hne HS6 hiog hTl
                  go_wp2_with (at_builtin; refine wpList_append_own_at _ rfl _ _ 51 rfl w.heap.size 23 i23 (.pointer none) 1 8 Try.underlying51 hj hy0 hy1 hy2 rfl (by decide) _ _ _ rfl (HG7.out.all.alloc _) ⟨wr.heap.size, 0, none⟩ 2 2 [.pointer (some ⟨s, 0, none⟩), .pointer none] rfl rfl (cell_two_new _ _ _ _) ?c2 ?c3 ?c4 ?c5 ?_)
                  case c2 => intro u hu; simp at hu; rcases hu with rfl | rfl <;> rfl
                  case c3 => unfold maxLen; omega
                  case c4 => omega
                  case c5 => simp; omega
                  intro v' w7 hown7 hgr7 hnil7 hloc7
                  have G8 := HG7.out.allpush (rs := [some (s, P), none]) hown7 hgr7 (by simpa using hloc7)
                  have G9 := G8.lessq (rs := ps ++ [some (s, P), none]) (by intro c L hm; simpa using hm)
                  have hgg : gat (ps ++ [some (s, P), none]) = gat ps ++ vals P := by simp [gat, valsOf]
                  rw [← hgg] at G9
                  obtain ⟨v1, v2, rfl, -⟩ := slice_of hown7
                  have HF := hidp G9
                  clear hown7 hgr7 hnil7 hloc7 G8 G9 hgg HG7 HC HIN HV
                  go_wp2_with fail
                  go_roundw
                  case rel => exact ⟨k + 1, F', _, by omega, by have := HPS.out; simp; omega, by simp, HF.out⟩
                  case measure => simp [intOf]; omega
    · obtain rfl : k = len := by omega
      have t1 : decide (k < k) = false := by simp
      obtain ⟨aa, ac, rfl, hag⟩ := slice_of hG.all
      have hgl := gat_len ps (fun c L hm => (hG.slabs c L hm).1)
      have CG := hidp (gather wr aa ac ps (by have := HPS.out; omega) (fun i hi => by
        obtain ⟨g, rfl, hg⟩ := hag (by omega)
        exact ⟨g, 0, rfl, by rw [Nat.zero_add, hG.all.cellAt i (by omega)]; simp [hi]⟩) (fun c L hm => by
        obtain ⟨h1, h2, v, g, low, h3, -⟩ := hG.slabs c L hm
        exact ⟨h1, v, g, low, h3⟩))
      obtain ⟨wa, wc, rfl, hwg⟩ := slice_of hG.want
      have HG := hidp hG
      clear hG hag
      go_wp2_with fail
      refine CG.out.mono ?_
      rintro e W5 ⟨⟨oa, oc, rfl, hown⟩, K5⟩
      have hG5 := HG.out.quiet K5
      obtain ⟨zs, hzs⟩ : ∃ zs, zs = gat ps := ⟨_, rfl⟩
      rw [← hzs] at hown hG5 hgl hwg
      have hzb : zs.length ≤ 1000000 := by have := HPS.out; omega
      simp only [← hzs]
      have HW5 := hidp (And.intro hG5 hown)
      obtain ⟨oa', oc', h3, hog⟩ := slice_of hown
      obtain ⟨rfl, rfl⟩ : oa = oa' ∧ oc = oc' := by simpa using h3
      clear h3
      have t2 : ((zs.length : Int) != (zs.length : Int)) = false := by simp
      clear CG HG hG5 hown K5 t1 hzs
      go_wp2_with fail
      go_loopw [17] (fun i wr => ∃ r : Nat, r ≤ zs.length ∧ i = .int .i64 r ∧ Keeps (fun _ => False) W5 wr) (fun i _ => zs.length - (intOf i).toNat)
      case atStart => exact ⟨0, Nat.zero_le _, rfl, Keeps.refl _ _⟩
      case round =>
        obtain ⟨r, hr, rfl, KR⟩ := hrel
        by_cases hrl : r < zs.length
        · obtain ⟨g1, rfl, hg1⟩ := hog (by omega)
          obtain ⟨g2, rfl, hg2⟩ := hwg (by omega)
          have x1 : wr.cell? ⟨g1, r, none⟩ = some (.int .i64 zs[r]) := by
            refine KR.cell ?_ (by simp)
            rw [HW5.out.2.cellAt r (by omega)]
            simp [ints, hrl]
          have x2 : wr.cell? ⟨g2, r, none⟩ = some (.int .i64 zs[r]) := by
            refine KR.cell ?_ (by simp)
            rw [HW5.out.1.want.cellAt r (by omega)]
            simp [ints, hrl]
          obtain ⟨x, hx⟩ : ∃ x, x = zs[r] := ⟨_, rfl⟩
          rw [← hx] at x1 x2
          have t4 : decide (r < zs.length) = true := by simpa using hrl
          have t5 : ((r : Int) < zs.length) := by omega
          have t6 : (x != x) = false := by simp
          have hw2 : IntKind.i64.wrap ((r : Int) + 1) = r + 1 := IntWalk.i64_in _ (by omega)
          have HK := hidp KR
          clear hx KR
          go_wp2_with fail
          go_quiet (fail)
          go_wp2_with fail
          go_roundw
          case rel => exact ⟨r + 1, by omega, by simp, keeps_drewN HK.out _⟩
          case measure => simp [intOf]; omega
        · obtain rfl : r = zs.length := by omega
          have t4 : decide (zs.length < zs.length) = false := by simp
          have HK := hidp KR
          clear KR
          go_wp2_with fail
          refine (awake_any wr).mono ?_
          rintro e W9 ⟨rfl, K9⟩
          have HF := hidp ((HW5.out.1.keeps.trans HK.out).trans K9)
          clear K9 HK HW5
          go_wp2_with fail
          go_ret
          exact ⟨rfl, HF.out⟩
end Go.Proofs.Ytnhcejbgkhhijaa
