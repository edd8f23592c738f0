/- The walk of SlabOnce. -/
import Derived.Test.YtnhcejbgkhhijaaOnceR
import Derived.Test.YtnhcejbgkhhijaaOpen
namespace Go.Proofs.Ytnhcejbgkhhijaa
open Go.RowKit Go.Pairs

theorem info27 : (Try.prog.info? 27).map (fun i => (i.zero, i.size, i.bytes)) = some (some (.agg #[.int .i64 0, .int .i64 0]), 2, 16) := by kernel_rfl

theorem infos27 : (Try.prog.info? 27).map (·.size) = some 2 := by kernel_rfl
theorem cell_two_new (w : World) (x y : Value) (t : TypeId) : ∀ j u, [x, y][j]? = some u → (w.alloc (.cells #[x, y] t)).cell? ((⟨w.heap.size, 0, none⟩ : Addr).add j) = some u := by
  intro j u hj
  match j, hj with
  | 0, hj => simp at hj; subst hj; simp [Addr.add]
  | 1, hj => simp at hj; subst hj; exact cells_at (heap_alloc_new w _) 1

theorem tmod_nat {x : Int} {a n p : Nat} (hx : x = a) (hp : p = a % n) : x.tmod n = p := by
  subst hx hp
  rw [Int.tmod_eq_emod_of_nonneg (by omega)]; omega

theorem apart_of {V : List (Nat × Nat)} {s g k : Nat} (hn : (s, g) ∉ V) (hk : k < V.length) : ∃ vx vy, V[k] = (vx, vy) ∧ ((¬ vx = s ∧ ¬ ((vx : Int) = (s : Int))) ∨ (vx = s ∧ ¬ vy = g ∧ ¬ ((vy : Int) = (g : Int)))) := by
  refine ⟨V[k].1, V[k].2, rfl, ?_⟩
  have hm := List.getElem_mem hk
  by_cases h : V[k].1 = s
  · have : V[k].2 ≠ g := fun h' => hn (by rw [← h, ← h']; exact hm)
    exact .inr ⟨h, this, by omega⟩
  · exact .inl ⟨h, by omega⟩

set_option maxRecDepth 100000 in
set_option maxHeartbeats 4000000 in
theorem once_yes (w : World) (ao : Option Addr) (len cap : Nat) (Z : Nat → Bool) (hb : len ≤ maxLen) (hZ : ∀ i, i < len → ∃ b off, ao = some ⟨b, off, none⟩ ∧ w.cell? ⟨b, off + i, none⟩ = some (.bool (Z i))) :
    Calls Try.prog 3 #[.slice ao len cap] w fun e w' => e = .returned (.bool true) ∧ Keeps (fun _ => False) w w' := by
  obtain ⟨i0, hi, hz0, hz1, hz2⟩ := info_parts info27
  have HZ := hidp hZ
  clear hZ
  unfold maxLen at hb
  go_enter Try.func3, Try.ntmps3
  go_wp2_with fail
  refine (ownnew_i w w (fun _ => False) (Keeps.refl _ _) (by simp)).mono ?_
  rintro e W1 ⟨rfl, O1, -⟩
  have S1 : OS w W1 w.heap.size [] [] [] (.slice none 0 0) (.slice none 0 0) (fun _ => False) :=
    ⟨O1.mine (Keeps.refl _ _) (by simp) (by rintro k (h | h | h) <;> simp_all [Value.ownBlock]), World.ownsRow_nil .., World.ownsRow_nil .., by simp [Value.ownBlock], by simp⟩
  clear O1
  go_wp2_with fail
  go_loopw [4, 5, 6] (fun lv dv i wr => ∃ (j : Nat) (L : List Cl) (V D : List (Nat × Nat)) (a1 a2 : Option Addr) (p1 p2 : Nat), j ≤ len ∧ j ≤ 120 ∧ i = .int .i64 j ∧ lv = .slice a1 V.length p1 ∧ dv = .slice a2 D.length p2 ∧ Law L V D j ∧ OS w wr w.heap.size L V D (.slice a1 V.length p1) (.slice a2 D.length p2) (fun _ => False)) (fun _ _ i _ => 120 - (intOf i).toNat)
  case atStart => exact ⟨0, [], [], [], none, none, 0, 0, by omega, by omega, rfl, rfl, rfl, law_nil, S1⟩
  case round =>
    obtain ⟨j, L, V, D, a1, a2, p1, p2, hj, hj2, rfl, rfl, rfl, hL, SS⟩ := hrel
    clear S1
    have hsz := hL.sizes
    by_cases hlt : j < len ∧ j < 120
    · obtain ⟨h1, h2⟩ := hlt
      obtain ⟨bo, off, rfl, x0⟩ := HZ.out j h1
      have x1 := SS.own.keeps.cell x0 (by simp)
      obtain ⟨zb, hzb⟩ : ∃ zb, Z j = zb := ⟨_, rfl⟩
      rw [hzb] at x1
      clear hzb x0
      have HL := hidp hL
      clear hL
      by_cases hput : zb = true ∨ V.length = 0
      · have C1 := ownput_i SS.own (fun d hd => by have := HL.out.gens d hd; omega) (by have := HL.out.len; omega) (j : Int)
        obtain ⟨hL2, hn1, hn2⟩ := law_put HL.out (.int .i64 0) (.int .i64 (j : Int))
        obtain ⟨s, hs⟩ : ∃ s, s = ff L := ⟨_, rfl⟩
        obtain ⟨g, hg⟩ : ∃ g, g = putG L := ⟨_, rfl⟩
        obtain ⟨L2, hL2e⟩ : ∃ L2, L2 = putL L (.int .i64 0) (.int .i64 (j : Int)) := ⟨_, rfl⟩
        rw [← hs, ← hg, ← hL2e] at hL2
        rw [← hs, ← hg] at hn1 hn2
        rw [← hs, ← hg, ← hL2e] at C1
        have HL2 := hidp hL2
        have HN1 := hidp hn1
        have HN2 := hidp hn2
        have HC1 := hidp C1
        have HSS := hidp SS
        clear hs hg hL2e hL2 hn1 hn2 C1 SS HL
        have hput2 : zb = true ∨ zb = false ∧ ((V.length : Int) == 0) = true := by
          rcases hput with h | h
          · exact .inl h
          · cases zb
            · exact .inr ⟨rfl, by simp [h]⟩
            · exact .inl rfl
        clear hput
        rcases hput2 with rfl | ⟨rfl, hV0b⟩
        all_goals
          go_wp2_with fail
          refine HC1.out.mono ?_
          rintro e W2 ⟨rfl, O2, K2⟩
          have S2 := HSS.out.slab O2 K2
          have S3 := S2.alloc (.cells #[.int .i64 s, .int .i64 g] 27)
          have y0 : (W2.alloc (.cells #[.int .i64 s, .int .i64 g] 27)).cell? ⟨W2.heap.size, 0, none⟩ = some (.int .i64 s) := cells_at (heap_alloc_new W2 _) 0
          have y1 : (W2.alloc (.cells #[.int .i64 s, .int .i64 g] 27)).cell? ⟨W2.heap.size, 1, none⟩ = some (.int .i64 g) := cells_at (heap_alloc_new W2 _) 1
          obtain ⟨W3, hW3⟩ : ∃ W3, W3 = W2.alloc (.cells #[.int .i64 s, .int .i64 g] 27) := ⟨_, rfl⟩
          rw [← hW3] at S3 y0 y1
          have HW3 := hidp hW3
          clear hW3 O2 K2 S2 HC1 HSS x1
          try clear hV0b
          go_wp2_with fail
          rw [← HW3.out]
          obtain ⟨b, hbb⟩ : ∃ b, b = W2.heap.size := ⟨_, rfl⟩
          rw [← hbb] at y0 y1 S3
          simp only [← hbb]
          clear HW3 hbb
          go_loopw [8] (fun kk wr' => ∃ k, k ≤ V.length ∧ kk = .int .i64 k ∧ OS w wr' w.heap.size L2 V D (.slice a1 V.length p1) (.slice a2 D.length p2) (fun k => False ∨ k = b) ∧ wr'.cell? ⟨b, 0, none⟩ = some (.int .i64 s) ∧ wr'.cell? ⟨b, 1, none⟩ = some (.int .i64 g)) (fun kk _ => V.length - (intOf kk).toNat)
          case atStart => exact ⟨0, by omega, rfl, S3, y0, y1⟩
          case round =>
            obtain ⟨k, hk, rfl, S4, z0, z1⟩ := hrel
            clear S3 y0 y1
            by_cases hkV : k < V.length
            · obtain ⟨g1, rfl⟩ : ∃ g1, a1 = some ⟨g1, 0, none⟩ := by
                obtain ⟨ao', cap', hv, h⟩ := slice_of S4.r1
                obtain ⟨g1, h1, -⟩ := h (by omega)
                simp at hv
                exact ⟨g1, hv.1.trans h1⟩
              obtain ⟨e0, e1⟩ := hc_get V k hkV
              have q0 := (S4.r1.cellAt (k * 2) (by omega)).trans e0
              have q1 := (S4.r1.cellAt (k * 2 + 1) (by omega)).trans e1
              obtain ⟨vx, vy, hv, hsp⟩ := apart_of HN1.out hkV
              rw [hv] at q0 q1
              clear e0 e1 hv
              rcases hsp with ⟨hd1, hd2⟩ | ⟨rfl, hd1, hd2⟩
              all_goals
                go_wp2_with fail
                go_quiet (fail)
                have S5 := S4.quiet (keeps_drewN (Keeps.refl _ _) nq)
                clear S4
                go_wp2_with fail
                go_roundw
                case rel => exact ⟨k + 1, by omega, by go_num, S5, z0, z1⟩
                case measure => simp [intOf]; omega
            · go_wp2_with fail
              clear hkV
              go_loopw [9] (fun kk wr' => ∃ k, k ≤ D.length ∧ kk = .int .i64 k ∧ OS w wr' w.heap.size L2 V D (.slice a1 V.length p1) (.slice a2 D.length p2) (fun k => False ∨ k = b) ∧ wr'.cell? ⟨b, 0, none⟩ = some (.int .i64 s) ∧ wr'.cell? ⟨b, 1, none⟩ = some (.int .i64 g)) (fun kk _ => D.length - (intOf kk).toNat)
              case atStart => exact ⟨0, by omega, rfl, S4, z0, z1⟩
              case round =>
                obtain ⟨k, hk, rfl, S6, x0, x1⟩ := hrel
                clear S4 z0 z1
                by_cases hkD : k < D.length
                · obtain ⟨g1, rfl⟩ : ∃ g1, a2 = some ⟨g1, 0, none⟩ := by
                    obtain ⟨ao', cap', hv, h⟩ := slice_of S6.r2
                    obtain ⟨g1, h1, -⟩ := h (by omega)
                    simp at hv
                    exact ⟨g1, hv.1.trans h1⟩
                  obtain ⟨e0, e1⟩ := hc_get D k hkD
                  have q0 := (S6.r2.cellAt (k * 2) (by omega)).trans e0
                  have q1 := (S6.r2.cellAt (k * 2 + 1) (by omega)).trans e1
                  obtain ⟨vx, vy, hv, hsp⟩ := apart_of HN2.out hkD
                  rw [hv] at q0 q1
                  clear e0 e1 hv
                  rcases hsp with ⟨hd1, hd2⟩ | ⟨rfl, hd1, hd2⟩
                  all_goals
                    go_wp2_with fail
                    go_quiet (fail)
                    have S5 := S6.quiet (keeps_drewN (Keeps.refl _ _) nq)
                    clear S6
                    go_wp2_with fail
                    go_roundw
                    case rel => exact ⟨k + 1, by omega, by go_num, S5, x0, x1⟩
                    case measure => simp [intOf]; omega
                · have S7 := S6
                  have hown := S6.r1
                  have hszW := S6.own.keeps.size
                  clear HN1 HN2
                  go_wp2_with (at_builtin; refine wpList_append_own_at _ rfl _ _ 25 rfl w.heap.size 27 i0 (.agg #[.int .i64 0, .int .i64 0]) 2 16 Try.underlying25 hi hz0 hz1 hz2 rfl (by decide) _ _ _ rfl (hown.alloc _) ⟨wr.heap.size, 0, none⟩ 1 1 [.int .i64 s, .int .i64 g] rfl rfl (cell_two_new _ _ _ _) ?c2 ?c3 ?c4 ?c5 ?_)
                  case c2 => intro u hu; simp at hu; rcases hu with rfl | rfl <;> rfl
                  case c3 => unfold maxLen; omega
                  case c4 => omega
                  case c5 => simp; omega
                  intro v' w7 hown7 hgr7 hnil7 hloc7
                  have S8 := S7.app1 (a := (s, g)) hown7 hgr7 hloc7
                  obtain ⟨b2, q2, rfl, -⟩ := slice_of hown7
                  have S9 : OS w w7 w.heap.size L2 (V ++ [(s, g)]) D (.slice b2 (V ++ [(s, g)]).length q2) (.slice a2 D.length p2) (fun _ => False) := by simpa using S8
                  clear hown7 hgr7 hnil7 hloc7 S8 S7 S6 hown x0 x1
                  go_wp2_with fail
                  go_roundw
                  case rel => exact ⟨j + 1, L2, V ++ [(s, g)], D, b2, a2, q2, p2, by omega, by omega, by go_num, by first | rfl | simp, rfl, HL2.out, S9⟩
                  case measure => simp [intOf]; omega
      · have hz : zb = false := by simpa using fun h => hput (.inl h)
        subst hz
        have hV : 0 < V.length := by omega
        clear hput
        have hV0b : ((V.length : Int) == 0) = false := by simp; intro h; subst h; simp at hV
        have hVne : ¬ V = [] := by intro h; subst h; simp at hV
        obtain ⟨m, hm⟩ : ∃ m, m = j % V.length := ⟨_, rfl⟩
        have hmV : m < V.length := hm ▸ Nat.mod_lt _ hV
        have hrem : (j : Int).tmod V.length = m := tmod_nat (a := j) rfl hm
        obtain ⟨g1, rfl⟩ : ∃ g1, a1 = some ⟨g1, 0, none⟩ := by
          obtain ⟨ao', cap', hv, h⟩ := slice_of SS.r1
          obtain ⟨g1, h1, -⟩ := h (by omega)
          simp at hv
          exact ⟨g1, hv.1.trans h1⟩
        obtain ⟨e0, e1⟩ := hc_get V m hmV
        have q0 := (SS.r1.cellAt (m * 2) (by omega)).trans e0
        have q1 := (SS.r1.cellAt (m * 2 + 1) (by omega)).trans e1
        obtain ⟨d, hd1, hd2, hd3⟩ := HL.out.live V[m] (List.getElem_mem hmV)
        have hL2 := law_drop HL.out m hmV d hd1 (.int .i64 0)
        obtain ⟨vx, vy, hv⟩ : ∃ vx vy, V[m] = (vx, vy) := ⟨_, _, rfl⟩
        rw [hv] at q0 q1 hd1 hd3 hL2
        simp only at q0 q1 hd1 hd3 hL2
        have hlx := (List.getElem?_eq_some_iff.1 hd1).1
        have hLx : L[vx] = d := (List.getElem?_eq_some_iff.1 hd1).2
        have S2 := SS.alloc (.cells #[.int .i64 vx, .int .i64 vy] 27)
        have y0 : (wr.alloc (.cells #[.int .i64 vx, .int .i64 vy] 27)).cell? ⟨wr.heap.size, 0, none⟩ = some (.int .i64 vx) := cells_at (heap_alloc_new wr _) 0
        have y1 : (wr.alloc (.cells #[.int .i64 vx, .int .i64 vy] 27)).cell? ⟨wr.heap.size, 1, none⟩ = some (.int .i64 vy) := cells_at (heap_alloc_new wr _) 1
        obtain ⟨W2, hW2⟩ : ∃ W2, W2 = wr.alloc (.cells #[.int .i64 vx, .int .i64 vy] 27) := ⟨_, rfl⟩
        rw [← hW2] at S2 y0 y1
        have C1 := owndrop_i S2.own vx vy vx hlx ⟨hlx, rfl, by rw [hLx]; exact hd2, by rw [hLx, hd3]⟩
        rw [hLx] at C1
        have HM := hidp hm
        clear hm
        have HL2 := hidp hL2
        have HC1 := hidp C1
        have HW2 := hidp hW2
        have HS2 := hidp S2
        have HY := hidp (And.intro y0 y1)
        clear e0 e1 hd1 hd2 hd3 hL2 hv hLx SS y0 y1 hW2 C1 S2 HL hlx
        have HY' := HY
        go_wp2_with fail
        rw [← HW2.out]
        refine HC1.out.mono ?_
        rintro e W4 ⟨rfl, O4, K4⟩
        have S4 := HS2.out.slab O4 K4
        have z0 := K4.cell HY.out.1 (fun h => h (.inl (.inr rfl)))
        have z1 := K4.cell HY.out.2 (fun h => h (.inl (.inr rfl)))
        obtain ⟨b, hbb⟩ : ∃ b, b = wr.heap.size := ⟨_, rfl⟩
        rw [← hbb] at z0 z1 S4
        simp only [← hbb]
        clear HW2 HC1 HS2 HY HY' O4 K4 q0 q1 x1 hV0b hbb
        have hown := S4.r2
        have hszW := S4.own.keeps.size
        go_wp2_with (at_builtin; refine wpList_append_own_at _ rfl _ _ 25 rfl w.heap.size 27 i0 (.agg #[.int .i64 0, .int .i64 0]) 2 16 Try.underlying25 hi hz0 hz1 hz2 rfl (by decide) _ _ _ rfl (hown.alloc _) ⟨W4.heap.size, 0, none⟩ 1 1 [.int .i64 vx, .int .i64 vy] rfl rfl (cell_two_new _ _ _ _) ?c2 ?c3 ?c4 ?c5 ?_)
        case c2 => intro u hu; simp at hu; rcases hu with rfl | rfl <;> rfl
        case c3 => unfold maxLen; omega
        case c4 => omega
        case c5 => simp; omega
        intro v' w7 hown7 hgr7 hnil7 hloc7
        have S8 := S4.app2 (a := (vx, vy)) hown7 hgr7 hloc7
        obtain ⟨b2, q2, rfl, -⟩ := slice_of hown7
        have S9 : OS w w7 w.heap.size (L.set vx ⟨d.gen, false, .int .i64 0⟩) V (D ++ [(vx, vy)]) (.slice (some ⟨g1, 0, none⟩) V.length p1) (.slice b2 (D ++ [(vx, vy)]).length q2) (fun _ => False) := by simpa using S8
        clear hown7 hgr7 hnil7 hloc7 S8 S4 hown z0 z1
        go_wp2_with fail
        have hcap : V.length ≤ p1 := by
          rcases S9.r1.2 with ⟨h, -⟩ | ⟨_, _, _, h, -, -, h', -⟩
          · simp at h
          · simp at h; omega
        obtain ⟨ad, hlow0, had⟩ := run_low2 Try.underlying25 infos27 g1 V.length p1 (m + 1) (by omega)
        have hlow : ∀ w', (Instr.slice 25 (.slice (some ⟨g1, 0, none⟩) V.length p1) (some (.int .i64 ((m : Int) + 1))) none none).run Try.prog w' = .ok (.slice (some ad) (V.length - (m + 1)) (p1 - (m + 1))) w' := by
          intro w'
          have := hlow0 w'
          rwa [show ((m + 1 : Nat) : Int) = (m : Int) + 1 by omega] at this
        have hhigh := run_high2 Try.underlying25 infos27 g1 V.length p1 m (by omega)
        have hw1 : IntKind.i64.wrap ((m : Int) + 1) = m + 1 := IntWalk.i64_in _ (by omega)
        have hrow := S9.r1
        have hg1 := hrow.lt g1 rfl
        have HB : Hid ((w7.drew.alloc (.cells #[] 27)).ownsRow w.heap.size 27 2 (.slice (some ⟨w7.heap.size, 0, none⟩) 0 0) 0 []) :=
          hidp ⟨rfl, .inr ⟨w7.heap.size, 0, #[], rfl, by omega, heap_alloc_new w7.drew _, by omega, by unfold maxLen; omega, rfl, rfl⟩⟩
        have HA1 : Hid (∀ j u, (hc (V.take m))[j]? = some u → (w7.drew.alloc (.cells #[] 27)).cell? ((⟨g1, 0, none⟩ : Addr).add j) = some u) := by
          refine hidp fun j u hj => ?_
          have hjl : j < m * 2 := by
            have := (List.getElem?_eq_some_iff.1 hj).1
            rw [hc_len] at this; simp at this; omega
          rw [← hc_take, List.getElem?_take, if_pos hjl] at hj
          have := ((hrow.drew).alloc (.cells #[] 27)).cellAt j (by omega)
          rw [show (⟨g1, 0, none⟩ : Addr).add j = ⟨g1, j, none⟩ by unfold Addr.add; split <;> simp_all, this, hj]
        have HA2 : Hid (∀ w8 : World, (w7.drew.alloc (.cells #[] 27)).grownBy w8 (some w7.heap.size) → ∀ j u, (hc (V.drop (m + 1)))[j]? = some u → w8.cell? (ad.add j) = some u) := by
          refine hidp fun w8 hgr j u hj => ?_
          have hjl : j < (V.length - (m + 1)) * 2 := by
            have := (List.getElem?_eq_some_iff.1 hj).1
            rw [hc_len] at this; simp at this; omega
          obtain rfl := had (by omega)
          rw [← hc_drop, List.getElem?_drop] at hj
          have h8 := ((hrow.drew).alloc (.cells #[] 27)).kept hgr (.inr (by simp [Value.ownBlock]; omega))
          have := h8.cellAt ((m + 1) * 2 + j) (by omega)
          rw [show (⟨g1, (m + 1) * 2, none⟩ : Addr).add j = ⟨g1, (m + 1) * 2 + j, none⟩ by unfold Addr.add; split <;> simp_all, this, hj]
        have HL1 : Hid ((hc (V.take m)).length = m * 2) := hidp (by rw [hc_len]; simp; omega)
        have HLb : Hid ((hc (V.drop (m + 1))).length = (V.length - (m + 1)) * 2) := hidp (by rw [hc_len]; simp)
        have HO1 : Hid (∀ V', ∀ u ∈ hc V', u.oneCell' = true) := hidp (by
          intro V' u hu
          simp only [hc, List.mem_flatMap] at hu
          obtain ⟨h, -, hu⟩ := hu
          simp at hu
          rcases hu with rfl | rfl <;> rfl)
        have HS9 := hidp S9
        clear S9 hlow0 hrow
        go_region_held3 (fun _ => True) (trivial) ((first
          | (refine step_append_at rfl (.tmp 90) (.tmp 96) 25 (by rfl) w.heap.size 27 i0 (.agg #[.int .i64 0, .int .i64 0]) 2 16 Try.underlying25 hi hz0 hz1 hz2 rfl (by decide) (.slice (some ⟨w7.heap.size, 0, none⟩) 0 0) 0 [] (by rfl) HB.out ⟨g1, 0, none⟩ m p1 (hc (V.take m)) (by rfl) HL1.out HA1.out (HO1.out _) (by unfold maxLen; omega) (by omega) (by simp; omega) ?_; intro v1 w8 hown8 hgr8 hnil8 hloc8)
          | (refine step_append_at rfl (.tmp 97) (.tmp 104) 25 (by rfl) w.heap.size 27 i0 (.agg #[.int .i64 0, .int .i64 0]) 2 16 Try.underlying25 hi hz0 hz1 hz2 rfl (by decide) v1 (0 + m) ([] ++ hc (V.take m)) (by rfl) hown8 ad (V.length - (m + 1)) (p1 - (m + 1)) (hc (V.drop (m + 1))) (by rfl) HLb.out (HA2.out _ hgr8) (HO1.out _) (by unfold maxLen; omega) (by omega) (by have := hgr8.size; simp at this; omega) ?_; intro v2 w9 hown9 hgr9 hnil9 hloc9)))
        have K8 : Keeps (fun _ => False) w7 w8 := (((Keeps.refl _ w7).drew).alloc _).grown hgr8 (fun k hk => .inr (by simp [Value.ownBlock] at hk; omega))
        have hl1 : ∀ k, v1.ownBlock = some k → w7.heap.size ≤ k := by
          intro k hk
          rcases hloc8 with h | h
          · rw [h] at hk; simp [Value.ownBlock] at hk; omega
          · rw [h] at hk; simp at hk; omega
        have K9 : Keeps (fun _ => False) w7 w9 := K8.grown hgr9 (fun k hk => .inr (hl1 k hk))
        have hlen9 : 0 + m + (V.length - (m + 1)) = (V.take m ++ V.drop (m + 1)).length := by simp; omega
        rw [List.nil_append, ← hc_app, hlen9] at hown9
        have S10 := HS9.out.new1 K9 hown9 (fun k hk => by
          rcases hloc9 with h | h
          · exact hl1 k (h.symm.trans hk)
          · rw [h] at hk
            have := K8.size
            simp at hk; omega)
        obtain ⟨a3, p3, rfl, -⟩ := slice_of hown9
        clear hown8 hgr8 hnil8 hloc8 hown9 hgr9 hnil9 hloc9 K8 K9 hl1 HS9 HB HA1 HA2 HL1 HLb HO1 hlen9 hlow hhigh hw1 hrem had
        go_wp2_with fail
        go_roundw
        case rel => exact ⟨j + 1, _, V.take m ++ V.drop (m + 1), D ++ [(vx, vy)], a3, b2, p3, q2, by omega, by omega, by go_num, by first | rfl | simp, by first | rfl | simp, HL2.out, S10⟩
        case measure => simp [intOf]; omega
    · have HL := hidp hL
      have hsp : (decide (j < len) = false ∧ ¬ j < len) ∨ (decide (j < len) = true ∧ decide (j < 120) = false ∧ ¬ j < 120) := by
        by_cases h : j < len
        · exact .inr ⟨by simpa using h, by simp; omega, by omega⟩
        · exact .inl ⟨by simpa using h, h⟩
      clear hlt hL
      rcases hsp with ⟨t1, t2⟩ | ⟨t1, t2, t3⟩
      all_goals
        go_wp2_with fail
        go_loopw [13] (fun kk wr' => ∃ k, k ≤ D.length ∧ kk = .int .i64 k ∧ OS w wr' w.heap.size L V D (.slice a1 V.length p1) (.slice a2 D.length p2) (fun _ => False)) (fun kk _ => D.length - (intOf kk).toNat)
        case atStart => exact ⟨0, by omega, rfl, SS⟩
        case round =>
          obtain ⟨k, hk, rfl, S4⟩ := hrel
          clear SS t1 t2
          by_cases hkD : k < D.length
          · obtain ⟨g2, rfl⟩ : ∃ g2, a2 = some ⟨g2, 0, none⟩ := by
              obtain ⟨ao', cap', hv, h⟩ := slice_of S4.r2
              obtain ⟨g2, h2, -⟩ := h (by omega)
              simp at hv
              exact ⟨g2, hv.1.trans h2⟩
            obtain ⟨e0, e1⟩ := hc_get D k hkD
            have hno := law_nohit HL.out D[k] (List.getElem_mem hkD)
            obtain ⟨vx, vy, hv⟩ : ∃ vx vy, D[k] = (vx, vy) := ⟨_, _, rfl⟩
            rw [hv] at e0 e1 hno
            simp only at e0 e1 hno
            have HE := hidp (And.intro e0 e1)
            have HNO := hidp hno
            clear e0 e1 hv hno
            have q0 := (S4.r2.cellAt (k * 2) (by omega)).trans HE.out.1
            have q1 := (S4.r2.cellAt (k * 2 + 1) (by omega)).trans HE.out.2
            have HS4 := hidp S4
            clear S4
            go_wp2_with fail
            refine (owngetno_i HS4.out.own vx vy HNO.out).mono ?_
            rintro e W5 ⟨rfl, O5, K5⟩
            have S5 := HS4.out.slab O5 K5
            clear HS4 O5 K5 q0 q1
            have q0 := (S5.r2.cellAt (k * 2) (by omega)).trans HE.out.1
            have q1 := (S5.r2.cellAt (k * 2 + 1) (by omega)).trans HE.out.2
            have HS5 := hidp S5
            clear S5
            go_wp2_with fail
            refine (owndropno_i HS5.out.own vx vy HNO.out).mono ?_
            rintro e W6 ⟨rfl, O6, K6⟩
            have S6 := HS5.out.slab O6 K6
            clear HS5 O6 K6 q0 q1
            have q0 := (S6.r2.cellAt (k * 2) (by omega)).trans HE.out.1
            have q1 := (S6.r2.cellAt (k * 2 + 1) (by omega)).trans HE.out.2
            have HS6 := hidp S6
            clear S6
            go_wp2_with fail
            refine (ownsetno_i HS6.out.own vx vy 1 HNO.out).mono ?_
            rintro e W7 ⟨rfl, O7, K7⟩
            have S7 := HS6.out.slab O7 K7
            clear HS6 O7 K7 q0 q1
            go_wp2_with fail
            go_roundw
            case rel => exact ⟨k + 1, by omega, by go_num, S7⟩
            case measure => simp [intOf]; omega
          · have hln := ownlen_i S4.own
            rw [HL.out.cnt] at hln
            have HK := hidp S4.own.keeps
            clear S4
            go_wp2_with (first | (go_at_call 12; refine hln.mono ?_; rintro e w' ⟨rfl, rfl⟩) | (go_at_call 13; refine (awake_any _).mono ?_; rintro e w' ⟨rfl, KA⟩))
            go_ret
            exact ⟨rfl, HK.out.trans KA⟩
end Go.Proofs.Ytnhcejbgkhhijaa
