/- SlabPlays: the walk. -/
import Derived.Test.YtnhcejbgkhhijaaPlaysS
import Derived.Deep.Cut
import Derived.Deep.CutRange
namespace Go.Proofs.Ytnhcejbgkhhijaa
open Go.RowKit Go.Pairs

theorem info27' : (Try.prog.info? 27).map (fun i => (i.zero, i.size, i.bytes)) = some (some (.agg #[.int .i64 0, .int .i64 0]), 2, 16) := by kernel_rfl
theorem tmod_nat' {x : Int} {a n p : Nat} (hx : x = a) (hp : p = a % n) : x.tmod n = p := by
  subst hx hp
  rw [Int.tmod_eq_emod_of_nonneg (by omega)]; omega

/-- a call of the script. -/
structure Opv where
  kind : Int
  at_ : Int
  x : Int
  h1 : Int
  h2 : Int

def IsOps (w : World) (ao : Option Addr) (len : Nat) (E : Nat → Opv) : Prop :=
  ∀ i, i < len → ∃ b off, ao = some ⟨b, off, none⟩ ∧ w.cell? ⟨b, off + i * 5, none⟩ = some (.int .i64 (E i).kind) ∧ w.cell? ⟨b, off + i * 5 + 1, none⟩ = some (.int .i64 (E i).at_) ∧ w.cell? ⟨b, off + i * 5 + 2, none⟩ = some (.int .i64 (E i).x) ∧
    w.cell? ⟨b, off + i * 5 + 3, none⟩ = some (.int .i64 (E i).h1) ∧ w.cell? ⟨b, off + i * 5 + 4, none⟩ = some (.int .i64 (E i).h2)

/-- between two calls. -/
def PI (w : World) (s c k : Nat) (tv : Value) (W : World) : Prop :=
  ∃ (L R : List Cl) (V : List (Nat × Nat)) (v' : Value) (g' : Option Nat), PS w W s c L R V tv v' g' (fun _ => False) ∧ Same L R ∧ L.length ≤ k ∧ (∀ d ∈ L, d.gen ≤ k) ∧ V.length ≤ k

set_option maxRecDepth 100000 in
set_option maxHeartbeats 4000000 in
theorem plays_yes (w : World) (ao : Option Addr) (len cap : Nat) (E : Nat → Opv) (hE : IsOps w ao len E) :
    Calls Try.prog 4 #[.slice ao len cap] w fun e w' => e = .returned (.bool true) ∧ Keeps (fun _ => False) w w' := by
  obtain ⟨i0, hi, hz0, hz1, hz2⟩ := info_parts info27'
  have HE := hidp hE
  clear hE
  go_enter Try.func4, Try.ntmps4
  go_wp2_with fail
  refine (ownnew_i w w (fun _ => False) (Keeps.refl _ _) (by simp)).mono ?_
  rintro e W1 ⟨rfl, O1, -⟩
  obtain ⟨s, hs⟩ : ∃ s, s = w.heap.size := ⟨_, rfl⟩
  rw [← hs] at O1
  obtain ⟨c, hc⟩ : ∃ c, c = W1.heap.size := ⟨_, rfl⟩
  have P1 := PS.start O1
  rw [← hc] at P1
  have HP1 := hidp P1
  clear O1 P1
  go_wp2_with fail
  simp only [← hs, ← hc]
  obtain ⟨W2, hW2⟩ : ∃ W2, W2 = W1.alloc (.cells #[.slice none 0 0] 39) := ⟨_, rfl⟩
  rw [← hW2] at HP1 ⊢
  clear hs hc hW2
  refine (awake_any W2).mono ?_
  rintro e W3 ⟨rfl, K3⟩
  have P3 := HP1.out.quiet K3
  have I3 : PI w s c 0 (.slice none 0 0) W3 := ⟨[], [], [], _, _, P3, same_nil, Nat.le_refl _, by simp, Nat.le_refl _⟩
  have HI3 := hidp I3
  clear I3 P3 HP1 K3
  go_wp2_with fail
  go_loopw [5, 6] (fun tv i wr => ∃ k : Nat, k ≤ len ∧ k ≤ 100 ∧ i = .int .i64 k ∧ PI w s c k tv wr) (fun _ i _ => 100 - (intOf i).toNat)
  case atStart => exact ⟨0, Nat.zero_le _, Nat.zero_le _, rfl, HI3.out⟩
  case round =>
    obtain ⟨k, hk1, hk2, rfl, L, R, V, v', g', hP, hS, hL, hG, hV⟩ := hrel
    clear HI3
    by_cases hlt : k < len ∧ k < 100
    · obtain ⟨h1, h2⟩ := hlt
      have t1 : decide (k < len) = true := by simpa using h1
      have t2 : decide ((k : Int) < 100) = true := by simp; omega
      have t3 : ((k : Int) < len) := by omega
      have hw : IntKind.i64.wrap ((k : Int) + 1) = k + 1 := IntWalk.i64_in _ (by omega)
      obtain ⟨b, off, rfl, z0, z1, z2, z3, z4⟩ := HE.out k h1
      obtain ⟨o, ho⟩ : ∃ o, o = E k := ⟨_, rfl⟩
      rw [← ho] at z0 z1 z2 z3 z4
      have z0 := hP.own.keeps.cell z0 (by simp)
      have z1 := hP.own.keeps.cell z1 (by simp)
      have z2 := hP.own.keeps.cell z2 (by simp)
      have z3 := hP.own.keeps.cell z3 (by simp)
      have z4 := hP.own.keeps.cell z4 (by simp)
      obtain ⟨ta, tc, rfl, htg⟩ := slice_of hP.told
      have HP := hidp (And.intro hP (And.intro hS (And.intro hL (And.intro hG hV))))
      clear ho hP hS hL hG hV
      obtain ⟨b7, hb7⟩ : ∃ b7, b7 = wr.heap.size := ⟨_, rfl⟩
      obtain ⟨b8, hb8⟩ : ∃ b8, b8 = b7 + 1 := ⟨_, rfl⟩
      obtain ⟨W5, hW5⟩ : ∃ W5, W5 = (wr.alloc (.cells #[.int .i64 o.kind, .int .i64 o.at_, .int .i64 o.x, .int .i64 o.h1, .int .i64 o.h2] 41)).alloc (.cells #[.int .i64 o.h1, .int .i64 o.h2] 27) := ⟨_, rfl⟩
      have K5 : Keeps (fun _ => False) wr W5 := hW5 ▸ ((Keeps.refl _ _).alloc _).alloc _
      have o7 : W5.heap[b7]? = some (.cells #[.int .i64 o.kind, .int .i64 o.at_, .int .i64 o.x, .int .i64 o.h1, .int .i64 o.h2] 41 (0, 0)) := by
        rw [hW5, heap_alloc_old _ _ (by simp; omega), hb7]; exact heap_alloc_new _ _
      have o8 : W5.heap[b8]? = some (.cells #[.int .i64 o.h1, .int .i64 o.h2] 27 (0, 0)) := by
        have := heap_alloc_new (wr.alloc (.cells #[.int .i64 o.kind, .int .i64 o.at_, .int .i64 o.x, .int .i64 o.h1, .int .i64 o.h2] 41)) (.cells #[.int .i64 o.h1, .int .i64 o.h2] 27)
        rw [World.size_alloc] at this
        rw [hW5, hb8, hb7]; exact this
      have hb7w : w.heap.size ≤ b7 := by have := HP.out.1.own.keeps.size; omega
      have P5 : PS w W5 s c L R V (.slice ta V.length tc) v' g' (fun k => k = b7 ∨ k = b8) := by
        rw [hW5]
        refine ((HP.out.1.alloc _).alloc _).less (fun k hk => ?_)
        rcases hk with rfl | rfl
        · exact .inl (.inr hb7)
        · exact .inr (by rw [World.size_alloc, ← hb7, hb8])
      have HP5 := hidp (And.intro P5 HP.out.2)
      have HB := hidp (And.intro hb7w (And.intro (show b7 < b8 by omega) (And.intro o7 o8)))
      clear P5 K5 HP hb7w
      go_upto_region 11 with (fail)
      rw [← hW5]
      simp only [← hb7, ← hb8]
      clear hW5 hb7 hb8 z0 z1 z2 z3 z4
      have y1 : W5.cell? ⟨b7, 1, none⟩ = some (.int .i64 o.at_) := cells_at o7 1
      clear o7 o8
      go_cut [52] from 29 to 149 (fun u w' => w' = W5 ∧ ∃ bb : Bool, u = .bool bb ∧ Hid (bb = true ↔ (0 < V.length ∧ 0 ≤ o.at_)))
      case first =>
        by_cases hv : 0 < V.length
        · by_cases hat : 0 ≤ o.at_
          · have s1 : decide (0 < V.length) = true := by simpa using hv
            have s2 : decide (0 ≤ o.at_) = true := by simpa using hat
            go_wp2_with fail
            go_meet
            case rel => exact ⟨rfl, true, rfl, hidp (by simp [hv, hat])⟩
          · have s1 : decide (0 < V.length) = true := by simpa using hv
            have s2 : decide (0 ≤ o.at_) = false := by simpa using hat
            go_wp2_with fail
            go_meet
            case rel => exact ⟨rfl, false, rfl, hidp (by simp [hat])⟩
        · have s1 : decide (0 < V.length) = false := by simpa using hv
          go_wp2_with fail
          go_meet
          case rel => exact ⟨rfl, false, rfl, hidp (by simp [hv])⟩
      case rest =>
        obtain ⟨rfl, bb, rfl, hbb⟩ := hcut
        clear y1
        go_upto_if 52 with (fail)
        go_cut [] from 29 to 149 (fun w' => ∃ x1 x2 : Int, w'.heap[b7]? = some (.cells #[.int .i64 o.kind, .int .i64 o.at_, .int .i64 o.x, .int .i64 o.h1, .int .i64 o.h2] 41 (0, 0)) ∧ w'.heap[b8]? = some (.cells #[.int .i64 x1, .int .i64 x2] 27 (0, 0)) ∧ PS w w' s c L R V (.slice ta V.length tc) v' g' (fun k => k = b7 ∨ k = b8))
        case first =>
          obtain ⟨hb7w, hb8, o7, o8⟩ := HB.out
          cases bb with
          | true =>
            have hsel := hbb.out.1 rfl
            obtain ⟨g, rfl, hgw⟩ := htg hsel.1
            obtain ⟨a, ha⟩ := Int.eq_ofNat_of_zero_le hsel.2
            obtain ⟨m, hm⟩ : ∃ m, m = a % V.length := ⟨_, rfl⟩
            have hml : m < V.length := hm ▸ Nat.mod_lt _ hsel.1
            have hrem : o.at_.tmod V.length = m := tmod_nat' (a := a) ha hm
            have y1 : wc.cell? ⟨b7, 1, none⟩ = some (.int .i64 o.at_) := cells_at o7 1
            have q0 := HP5.out.1.told.cellAt (m * 2) (by omega)
            have q1 := HP5.out.1.told.cellAt (m * 2 + 1) (by omega)
            rw [(hc_get V m hml).1] at q0
            rw [(hc_get V m hml).2] at q1
            obtain ⟨p, hp⟩ : ∃ p, p = V[m].1 := ⟨_, rfl⟩
            obtain ⟨q, hq⟩ : ∃ q, q = V[m].2 := ⟨_, rfl⟩
            rw [← hp] at q0
            rw [← hq] at q1
            have r0 : wc.cell? ⟨b8, 0, none⟩ = some (.int .i64 o.h1) := cells_at o8 0
            have r1 : wc.cell? ⟨b8, 1, none⟩ = some (.int .i64 o.h2) := cells_at o8 1
            have f0 := free_at o8 0
            have f1 := free_at o8 1
            have s2 : ((m : Int) < V.length) := by omega
            have s3 : ¬ ((V.length : Int) = 0) := by omega
            have s4 : ¬ (V.length = 0) := by omega
            have hw6 : IntKind.i64.wrap (m : Int) = m := IntWalk.i64_in _ (by have := HP5.out.2.2.2.2; omega)
            have K6 : Keeps (fun k => k = b8) wc ((wc.setCell ⟨b8, 0, none⟩ (.int .i64 p)).setCell ⟨b8, 1, none⟩ (.int .i64 q)) := ((Keeps.refl (fun k => k = b8) wc).setCell (p := ⟨b8, 0, none⟩) (.inl rfl) _).setCell (p := ⟨b8, 1, none⟩) (.inl rfl) _
            have o8' : ((wc.setCell ⟨b8, 0, none⟩ (.int .i64 p)).setCell ⟨b8, 1, none⟩ (.int .i64 q)).heap[b8]? = some (.cells #[.int .i64 p, .int .i64 q] 27 (0, 0)) := by
              rw [setCell_block (setCell_block o8 0 _)]; simp
            have o7' := (K6.block b7 (Array.getElem?_eq_some_iff.1 o7).1 (by omega)).trans o7
            have P6 := HP5.out.1.box K6 (.inr rfl)
            have HR := hidp (And.intro o7' (And.intro o8' P6))
            have hmv : m ≤ 1000 := by have := HP5.out.2.2.2.2; omega
            clear o7 o8 o7' o8' K6 P6 hm ha hp hq hml hsel hbb hgw
            go_wp2_with fail
            go_meet
            case rel => exact ⟨_, _, HR.out⟩
          | false =>
            have HR := hidp (And.intro o7 (And.intro o8 HP5.out.1))
            clear o7 o8 hbb
            go_wp2_with fail
            go_meet
            case rel => exact ⟨_, _, HR.out⟩
        case rest =>
          obtain ⟨x1, x2, o7, o8, hP⟩ := hcut
          obtain ⟨-, hS, hL, hG, hV⟩ := HP5.out
          have hRG : ∀ d ∈ R, d.gen ≤ k := by
            intro d hd
            obtain ⟨i, hi, rfl⟩ := List.getElem_of_mem hd
            have hi' : i < L.length := by rw [hS.1]; exact hi
            rw [← (hS.2 i hi' hi).1]
            exact hG _ (List.getElem_mem hi')
          have y0 : wc.cell? ⟨b7, 0, none⟩ = some (.int .i64 o.kind) := cells_at o7 0
          have y2 : wc.cell? ⟨b7, 2, none⟩ = some (.int .i64 o.x) := cells_at o7 2
          have r0 : wc.cell? ⟨b8, 0, none⟩ = some (.int .i64 x1) := cells_at o8 0
          have r1 : wc.cell? ⟨b8, 1, none⟩ = some (.int .i64 x2) := cells_at o8 1
          have HB2 := hidp (And.intro o7 o8)
          have HH := hidp (And.intro hP (And.intro hS (And.intro hL (And.intro hG (And.intro hV hRG)))))
          clear o7 o8 hP hS hL hG hV hRG HP5 HB htg
          by_cases k0 : o.kind = 0
          · rw [k0] at y0
            clear k0
            have C8 := anyput HH.out.1.own (fun d hd => by have := HH.out.2.2.2.1 d hd; omega) (by have := HH.out.2.2.1; omega) o.x
            have hsf := same_ff HH.out.2.1
            have hsg := same_putG HH.out.2.1
            have hs2 := same_put HH.out.2.1 (.int .i64 0) (.int .i64 o.x)
            have hl2 := put_len L (.int .i64 0) (.int .i64 o.x)
            have hg2 := put_gens HH.out.2.2.2.1 (.int .i64 0) (.int .i64 o.x)
            obtain ⟨L6, hL6⟩ : ∃ L6, L6 = putL L (.int .i64 0) (.int .i64 o.x) := ⟨_, rfl⟩
            obtain ⟨R6, hR6⟩ : ∃ R6, R6 = putL R (.int .i64 0) (.int .i64 o.x) := ⟨_, rfl⟩
            obtain ⟨p, hp⟩ : ∃ p, p = ff L := ⟨_, rfl⟩
            obtain ⟨gn, hgn⟩ : ∃ gn, gn = putG L := ⟨_, rfl⟩
            rw [← hL6, ← hp, ← hgn] at C8
            rw [← hL6, ← hR6] at hs2
            rw [← hL6] at hl2 hg2
            have HC8 := hidp C8
            have HSS := hidp (And.intro hs2 (And.intro hl2 hg2))
            have HRR := hidp (And.intro (show ff R = p by rw [hp, hsf]) (And.intro (show putG R = gn by rw [hgn, hsg]) hR6))
            clear C8 hsf hsg hs2 hl2 hg2 hL6 hR6 hp hgn
            go_wp2_with fail
            refine HC8.out.mono ?_
            rintro e W6 ⟨rfl, O6, S6⟩
            obtain ⟨P6, X6⟩ := HH.out.1.slab O6 S6.keeps
            have P7 := P6.alloc (.cells #[.int .i64 p, .int .i64 gn] 27)
            obtain ⟨ba, hba⟩ : ∃ ba, ba = W6.heap.size := ⟨_, rfl⟩
            have oa7 : (W6.alloc (.cells #[.int .i64 p, .int .i64 gn] 27)).heap[ba]? = some (.cells #[.int .i64 p, .int .i64 gn] 27 (0, 0)) := by rw [hba]; exact heap_alloc_new _ _
            have ob7 := (X6 b7 (.inl rfl)).trans HB2.out.1
            have ob7' : (W6.alloc (.cells #[.int .i64 p, .int .i64 gn] 27)).heap[b7]? = _ := (heap_alloc_old _ _ (Array.getElem?_eq_some_iff.1 ob7).1).trans ob7
            have y2 := cells_at ob7' 2
            simp only [List.getElem?_toArray, List.getElem?_cons_succ, List.getElem?_cons_zero] at y2
            rw [← hba] at P7
            obtain ⟨W7, hW7⟩ : ∃ W7, W7 = W6.alloc (.cells #[.int .i64 p, .int .i64 gn] 27) := ⟨_, rfl⟩
            rw [← hW7] at P7 oa7 y2
            have HP7 := hidp (And.intro P7 oa7)
            have HW7 := hidp (And.intro hW7 hba)
            clear P6 X6 P7 oa7 ob7 ob7' O6 S6 HC8 hW7 hba r0 r1 y0
            go_upto_region 18 with (fail)
            simp only [← HW7.out.2]
            rw [← HW7.out.1]
            go_wp2_with fail
            obtain ⟨RA, hO, hback⟩ := HP7.out.1.doc
            refine (ownr_put hO (fun d hd => by have := HH.out.2.2.2.2.2 d hd; omega) (by have := HH.out.2.2.1; have := HH.out.2.1.1; omega) o.x).mono ?_
            rintro e W8 ⟨rfl, O8, K8⟩
            obtain ⟨v8, g8, P8, X8⟩ := hback _ _ O8 K8
            rw [HRR.out.1, HRR.out.2.1, ← HRR.out.2.2] at *
            have P9 := P8.alloc (.cells #[.int .i64 p, .int .i64 gn] 27)
            obtain ⟨bc, hbc⟩ : ∃ bc, bc = W8.heap.size := ⟨_, rfl⟩
            have oc9 : (W8.alloc (.cells #[.int .i64 p, .int .i64 gn] 27)).heap[bc]? = some (.cells #[.int .i64 p, .int .i64 gn] 27 (0, 0)) := by rw [hbc]; exact heap_alloc_new _ _
            have oa8 := (X8 ba (.inr rfl)).trans HP7.out.2
            have oa9 : (W8.alloc (.cells #[.int .i64 p, .int .i64 gn] 27)).heap[ba]? = _ := (heap_alloc_old _ _ (Array.getElem?_eq_some_iff.1 oa8).1).trans oa8
            obtain ⟨W9, hW9⟩ : ∃ W9, W9 = W8.alloc (.cells #[.int .i64 p, .int .i64 gn] 27) := ⟨_, rfl⟩
            rw [← hW9] at P9 oc9 oa9
            rw [← hbc] at P9
            have za0 := cells_at oa9 0
            have za1 := cells_at oa9 1
            simp only [List.getElem?_toArray, List.getElem?_cons_succ, List.getElem?_cons_zero] at za0 za1
            have hvl := HH.out.2.2.2.2.1
            have HP9 := hidp (And.intro P9 (And.intro oa9 oc9))
            have HW9 := hidp (And.intro hW9 hbc)
            clear P8 X8 P9 oc9 oa8 oa9 hW9 hbc O8 K8 hO hback HP7 HW7 y2
            go_upto_region 19 with (fail)
            simp only [← HW9.out.2]
            rw [← HW9.out.1]
            go_wp2_with (at_builtin; refine wpList_append_own_at _ rfl _ _ 25 rfl w.heap.size 27 i0 (.agg #[.int .i64 0, .int .i64 0]) 2 16 Try.underlying25 hi hz0 hz1 hz2 rfl (by decide) _ _ _ rfl (HP9.out.1.told.alloc _) ⟨W9.heap.size, 0, none⟩ 1 1 [.int .i64 p, .int .i64 gn] rfl rfl (cell_two_new _ _ _ _) ?c2 ?c3 ?c4 ?c5 ?_)
            case c2 => intro u hu; simp at hu; rcases hu with rfl | rfl <;> rfl
            case c3 => unfold maxLen; omega
            case c4 => omega
            case c5 => have := HP9.out.1.own.keeps.size; simp; omega
            intro u w10 hown10 hgr10 hnil10 hloc10
            obtain ⟨P10, X10⟩ := HP9.out.1.push (a := (p, gn)) hown10 hgr10 (by simpa using hloc10)
            have oa10 := (X10 ba (.inl (.inr rfl))).trans HP9.out.2.1
            have oc10 := (X10 bc (.inr rfl)).trans HP9.out.2.2
            have za0 := cells_at oa10 0
            have za1 := cells_at oa10 1
            have zc0 := cells_at oc10 0
            have zc1 := cells_at oc10 1
            simp only [List.getElem?_toArray, List.getElem?_cons_succ, List.getElem?_cons_zero] at za0 za1 zc0 zc1
            obtain ⟨u1, u2', rfl, -⟩ := slice_of hown10
            have HF := hidp (And.intro P10 (And.intro HSS.out.1 (And.intro (show L6.length ≤ k + 1 by have := HSS.out.2.1; have := HH.out.2.2.1; omega) (And.intro (show ∀ d ∈ L6, d.gen ≤ k + 1 from HSS.out.2.2) (show (V ++ [(p, gn)]).length ≤ k + 1 by simp; omega)))))
            clear P10 X10 oa10 oc10 hown10 hgr10 hnil10 hloc10 HP9 HW9 HSS HRR
            go_wp2_with fail
            refine (ownlen_i HF.out.1.own).mono ?_
            rintro e W8 ⟨rfl, rfl⟩
            obtain ⟨RA9, hO9, -⟩ := HF.out.1.doc
            have C9 := ownr_all hO9
            rw [← same_all HF.out.2.1, its_cnt] at C9
            obtain ⟨nn, hnn⟩ : ∃ nn, nn = cnt L6 := ⟨_, rfl⟩
            rw [← hnn] at C9 ⊢
            have HC9 := hidp C9
            have t9 : ((nn : Int) != (nn : Int)) = false := by simp
            clear hO9 C9 hnn
            go_wp2_with fail
            refine HC9.out.mono ?_
            rintro e W9 ⟨⟨oo, rfl, hown9⟩, -, K9⟩
            obtain ⟨q1, q2, rfl, -⟩ := slice_of hown9
            have HF9 := hidp (And.intro ((HF.out.1.quiet K9).less (Y := fun _ => False) (by simp)) HF.out.2)
            clear hown9 K9 HC9
            go_wp2_with fail
            go_roundw
            case rel =>
              exact ⟨k + 1, by omega, by omega, by simp, _, _, _, _, _, HF9.out⟩
            case measure => simp [intOf]; omega
          · by_cases k1 : o.kind = 1
            · rw [k1] at y0
              clear k0 k1
              by_cases hit : ∃ i, Hit L x1 x2 i
              · obtain ⟨i, hit⟩ := hit
                have hil := hit.1
                have hir := (same_hit HH.out.2.1 hit).1
                obtain ⟨x, hx⟩ : ∃ x, L[i].x = Value.int .i64 x := by
                  obtain ⟨v, g, low, hsl, -⟩ := HH.out.1.own.slab
                  exact hsl.els _ (List.getElem_mem hil)
                have hxr : R[i].x = Value.int .i64 x := by rw [← (HH.out.2.1.2 i hil hir).2.2 hit.2.2.1, hx]
                have C8 := ownget_i HH.out.1.own x1 x2 i hil hit
                rw [hx] at C8
                have HC8 := hidp C8
                have HX := hidp (And.intro hxr (And.intro hit (same_hit HH.out.2.1 hit)))
                clear C8 hx hxr hit
                have e1 : (x == x) = true := by simp
                go_wp2_with fail
                refine HC8.out.mono ?_
                rintro e W6 ⟨rfl, O6, K6⟩
                obtain ⟨P6, X6⟩ := HH.out.1.slab O6 K6
                have o8 := (X6 b8 (.inr rfl)).trans HB2.out.2
                have r0 := cells_at o8 0
                have r1 := cells_at o8 1
                simp only [List.getElem?_toArray, List.getElem?_cons_succ, List.getElem?_cons_zero] at r0 r1
                have HP6 := hidp P6
                clear P6 X6 o8 O6 K6 HC8 y0 y2
                go_wp2_with fail
                obtain ⟨RA, hO, hback⟩ := HP6.out.doc
                have C7 := ownr_get hO x1 x2 i hir HX.out.2.2
                rw [HX.out.1] at C7
                refine C7.mono ?_
                rintro e W7 ⟨rfl, O7, K7⟩
                obtain ⟨v7, g7, P7, -⟩ := hback _ _ O7 K7
                have HF := hidp (And.intro P7 (And.intro HH.out.2.1 (And.intro (show L.length ≤ k + 1 from by have := HH.out.2.2.1; omega) (And.intro (show ∀ d ∈ L, d.gen ≤ k + 1 from fun d hd => by have := HH.out.2.2.2.1 d hd; omega) (show V.length ≤ k + 1 by have := HH.out.2.2.2.2.1; omega)))))
                clear P7 O7 K7 hO hback C7 HP6 r0 r1
                go_wp2_with fail
                refine (ownlen_i HF.out.1.own).mono ?_
                rintro e W8 ⟨rfl, rfl⟩
                obtain ⟨RA9, hO9, -⟩ := HF.out.1.doc
                have C9 := ownr_all hO9
                rw [← same_all HF.out.2.1, its_cnt] at C9
                obtain ⟨nn, hnn⟩ : ∃ nn, nn = cnt L := ⟨_, rfl⟩
                rw [← hnn] at C9 ⊢
                have HC9 := hidp C9
                have t9 : ((nn : Int) != (nn : Int)) = false := by simp
                clear hO9 C9 hnn
                go_wp2_with fail
                refine HC9.out.mono ?_
                rintro e W9 ⟨⟨oo, rfl, hown9⟩, -, K9⟩
                obtain ⟨q1, q2, rfl, -⟩ := slice_of hown9
                have HF9 := hidp (And.intro ((HF.out.1.quiet K9).less (Y := fun _ => False) (by simp)) HF.out.2)
                clear hown9 K9 HC9
                go_wp2_with fail
                go_roundw
                case rel =>
                  exact ⟨k + 1, by omega, by omega, by simp, _, _, _, _, _, HF9.out⟩
                case measure => simp [intOf]; omega
              · have hnr : ∀ i, ¬ Hit R x1 x2 i := fun i h => hit ⟨i, same_hit HH.out.2.1.symm h⟩
                have HC8 := hidp (owngetno_i HH.out.1.own x1 x2 (fun i h => hit ⟨i, h⟩))
                have HX := hidp hnr
                clear hit hnr
                go_wp2_with fail
                refine HC8.out.mono ?_
                rintro e W6 ⟨rfl, O6, K6⟩
                obtain ⟨P6, X6⟩ := HH.out.1.slab O6 K6
                have o8 := (X6 b8 (.inr rfl)).trans HB2.out.2
                have r0 := cells_at o8 0
                have r1 := cells_at o8 1
                simp only [List.getElem?_toArray, List.getElem?_cons_succ, List.getElem?_cons_zero] at r0 r1
                have HP6 := hidp P6
                clear P6 X6 o8 O6 K6 HC8 y0 y2
                go_wp2_with fail
                obtain ⟨RA, hO, hback⟩ := HP6.out.doc
                refine (ownr_getno hO x1 x2 HX.out).mono ?_
                rintro e W7 ⟨rfl, O7, K7⟩
                obtain ⟨v7, g7, P7, -⟩ := hback _ _ O7 K7
                have HF := hidp (And.intro P7 (And.intro HH.out.2.1 (And.intro (show L.length ≤ k + 1 from by have := HH.out.2.2.1; omega) (And.intro (show ∀ d ∈ L, d.gen ≤ k + 1 from fun d hd => by have := HH.out.2.2.2.1 d hd; omega) (show V.length ≤ k + 1 by have := HH.out.2.2.2.2.1; omega)))))
                clear P7 O7 K7 hO hback HP6 r0 r1
                go_wp2_with fail
                refine (ownlen_i HF.out.1.own).mono ?_
                rintro e W8 ⟨rfl, rfl⟩
                obtain ⟨RA9, hO9, -⟩ := HF.out.1.doc
                have C9 := ownr_all hO9
                rw [← same_all HF.out.2.1, its_cnt] at C9
                obtain ⟨nn, hnn⟩ : ∃ nn, nn = cnt L := ⟨_, rfl⟩
                rw [← hnn] at C9 ⊢
                have HC9 := hidp C9
                have t9 : ((nn : Int) != (nn : Int)) = false := by simp
                clear hO9 C9 hnn
                go_wp2_with fail
                refine HC9.out.mono ?_
                rintro e W9 ⟨⟨oo, rfl, hown9⟩, -, K9⟩
                obtain ⟨q1, q2, rfl, -⟩ := slice_of hown9
                have HF9 := hidp (And.intro ((HF.out.1.quiet K9).less (Y := fun _ => False) (by simp)) HF.out.2)
                clear hown9 K9 HC9
                go_wp2_with fail
                go_roundw
                case rel =>
                  exact ⟨k + 1, by omega, by omega, by simp, _, _, _, _, _, HF9.out⟩
                case measure => simp [intOf]; omega
            · by_cases k2 : o.kind = 2
              · rw [k2] at y0
                clear k0 k1 k2
                have HPd := hidp (HH.out.1.quiet (keeps_drew0 (S := fun _ => False) wc 1))
                by_cases hit : ∃ i, Hit L x1 x2 i
                · obtain ⟨i, hit⟩ := hit
                  have hil := hit.1
                  have hir := (same_hit HH.out.2.1 hit).1
                  have HX := hidp (And.intro hit (same_hit HH.out.2.1 hit))
                  clear hit
                  go_wp2_with fail
                  go_region_held3 (fun W' => W'.cell? ⟨b7, 2, none⟩ = some (.int .i64 o.x) ∧ W'.cell? ⟨b8, 0, none⟩ = some (.int .i64 x1) ∧ W'.cell? ⟨b8, 1, none⟩ = some (.int .i64 x2)) (first | exact ⟨y2, r0, r1⟩ | exact ⟨cells_at ((X6 b7 (.inl rfl)).trans HB2.out.1) 2, cells_at ((X6 b8 (.inr rfl)).trans HB2.out.2) 0, cells_at ((X6 b8 (.inr rfl)).trans HB2.out.2) 1⟩ | exact ⟨cells_at (((X7 b7 (.inl rfl)).trans (X6 b7 (.inl rfl))).trans HB2.out.1) 2, cells_at (((X7 b8 (.inr rfl)).trans (X6 b8 (.inr rfl))).trans HB2.out.2) 0, cells_at (((X7 b8 (.inr rfl)).trans (X6 b8 (.inr rfl))).trans HB2.out.2) 1⟩) ((first
                    | (refine (ownset_i HPd.out.own x1 x2 i hil HX.out.1 o.x).mono ?_; rintro e W6 ⟨rfl, O6, K6⟩; obtain ⟨P6, X6⟩ := HPd.out.slab O6 K6; obtain ⟨RA, hO, hback⟩ := P6.doc)
                    | (refine (ownr_set hO x1 x2 i hir HX.out.2 o.x).mono ?_; rintro e W7 ⟨rfl, O7, K7⟩; obtain ⟨v7, g7, P7, X7⟩ := hback _ _ O7 K7)))
                  have hgg := (HH.out.2.1.2 i hil hir).1
                  have hsm : Same (L.set i ⟨L[i].gen, true, .int .i64 o.x⟩) (R.set i ⟨R[i].gen, true, .int .i64 o.x⟩) := by
                    rw [hgg]
                    exact same_set HH.out.2.1 i _ _ _ _ (fun _ => rfl)
                  have HF := hidp (And.intro P7 (And.intro hsm (And.intro (show (L.set i ⟨L[i].gen, true, .int .i64 o.x⟩).length ≤ k + 1 from by have := HH.out.2.2.1; simp; omega) (And.intro (show ∀ d ∈ (L.set i ⟨L[i].gen, true, .int .i64 o.x⟩), d.gen ≤ k + 1 from fun d hd => by have := set_gens HH.out.2.2.2.1 hil true (.int .i64 o.x) d hd; omega) (show V.length ≤ k + 1 by have := HH.out.2.2.2.2.1; omega)))))
                  clear P7 O7 K7 X7 hO hback P6 O6 K6 X6 y0 y2 r0 r1 hgg hsm HPd
                  go_wp2_with fail
                  refine (ownlen_i HF.out.1.own).mono ?_
                  rintro e W8 ⟨rfl, rfl⟩
                  obtain ⟨RA9, hO9, -⟩ := HF.out.1.doc
                  have C9 := ownr_all hO9
                  rw [← same_all HF.out.2.1, its_cnt] at C9
                  obtain ⟨nn, hnn⟩ : ∃ nn, nn = cnt (L.set i ⟨L[i].gen, true, .int .i64 o.x⟩) := ⟨_, rfl⟩
                  rw [← hnn] at C9 ⊢
                  have HC9 := hidp C9
                  have t9 : ((nn : Int) != (nn : Int)) = false := by simp
                  clear hO9 C9 hnn
                  go_wp2_with fail
                  refine HC9.out.mono ?_
                  rintro e W9 ⟨⟨oo, rfl, hown9⟩, -, K9⟩
                  obtain ⟨q1, q2, rfl, -⟩ := slice_of hown9
                  have HF9 := hidp (And.intro ((HF.out.1.quiet K9).less (Y := fun _ => False) (by simp)) HF.out.2)
                  clear hown9 K9 HC9
                  go_wp2_with fail
                  go_roundw
                  case rel =>
                    exact ⟨k + 1, by omega, by omega, by simp, _, _, _, _, _, HF9.out⟩
                  case measure => simp [intOf]; omega
                · have HX := hidp (And.intro (show ∀ i, ¬ Hit L x1 x2 i from fun i h => hit ⟨i, h⟩) (show ∀ i, ¬ Hit R x1 x2 i from fun i h => hit ⟨i, same_hit HH.out.2.1.symm h⟩))
                  clear hit
                  go_wp2_with fail
                  go_region_held3 (fun W' => W'.cell? ⟨b7, 2, none⟩ = some (.int .i64 o.x) ∧ W'.cell? ⟨b8, 0, none⟩ = some (.int .i64 x1) ∧ W'.cell? ⟨b8, 1, none⟩ = some (.int .i64 x2)) (first | exact ⟨y2, r0, r1⟩ | exact ⟨cells_at ((X6 b7 (.inl rfl)).trans HB2.out.1) 2, cells_at ((X6 b8 (.inr rfl)).trans HB2.out.2) 0, cells_at ((X6 b8 (.inr rfl)).trans HB2.out.2) 1⟩ | exact ⟨cells_at (((X7 b7 (.inl rfl)).trans (X6 b7 (.inl rfl))).trans HB2.out.1) 2, cells_at (((X7 b8 (.inr rfl)).trans (X6 b8 (.inr rfl))).trans HB2.out.2) 0, cells_at (((X7 b8 (.inr rfl)).trans (X6 b8 (.inr rfl))).trans HB2.out.2) 1⟩) ((first
                    | (refine (ownsetno_i HPd.out.own x1 x2 o.x HX.out.1).mono ?_; rintro e W6 ⟨rfl, O6, K6⟩; obtain ⟨P6, X6⟩ := HPd.out.slab O6 K6; obtain ⟨RA, hO, hback⟩ := P6.doc)
                    | (refine (ownr_setno hO x1 x2 o.x HX.out.2).mono ?_; rintro e W7 ⟨rfl, O7, K7⟩; obtain ⟨v7, g7, P7, X7⟩ := hback _ _ O7 K7)))
                  have HF := hidp (And.intro P7 (And.intro HH.out.2.1 (And.intro (show L.length ≤ k + 1 from by have := HH.out.2.2.1; omega) (And.intro (show ∀ d ∈ L, d.gen ≤ k + 1 from fun d hd => by have := HH.out.2.2.2.1 d hd; omega) (show V.length ≤ k + 1 by have := HH.out.2.2.2.2.1; omega)))))
                  clear P7 O7 K7 X7 hO hback P6 O6 K6 X6 y0 y2 r0 r1 HPd
                  go_wp2_with fail
                  refine (ownlen_i HF.out.1.own).mono ?_
                  rintro e W8 ⟨rfl, rfl⟩
                  obtain ⟨RA9, hO9, -⟩ := HF.out.1.doc
                  have C9 := ownr_all hO9
                  rw [← same_all HF.out.2.1, its_cnt] at C9
                  obtain ⟨nn, hnn⟩ : ∃ nn, nn = cnt L := ⟨_, rfl⟩
                  rw [← hnn] at C9 ⊢
                  have HC9 := hidp C9
                  have t9 : ((nn : Int) != (nn : Int)) = false := by simp
                  clear hO9 C9 hnn
                  go_wp2_with fail
                  refine HC9.out.mono ?_
                  rintro e W9 ⟨⟨oo, rfl, hown9⟩, -, K9⟩
                  obtain ⟨q1, q2, rfl, -⟩ := slice_of hown9
                  have HF9 := hidp (And.intro ((HF.out.1.quiet K9).less (Y := fun _ => False) (by simp)) HF.out.2)
                  clear hown9 K9 HC9
                  go_wp2_with fail
                  go_roundw
                  case rel =>
                    exact ⟨k + 1, by omega, by omega, by simp, _, _, _, _, _, HF9.out⟩
                  case measure => simp [intOf]; omega
              · by_cases k3 : o.kind = 3
                · rw [k3] at y0
                  clear k0 k1 k2 k3
                  by_cases hit : ∃ i, Hit L x1 x2 i
                  · obtain ⟨i, hit⟩ := hit
                    have hil := hit.1
                    have hir := (same_hit HH.out.2.1 hit).1
                    obtain ⟨x, hx⟩ : ∃ x, L[i].x = Value.int .i64 x := by
                      obtain ⟨v, g, low, hsl, -⟩ := HH.out.1.own.slab
                      exact hsl.els _ (List.getElem_mem hil)
                    have hxr : R[i].x = Value.int .i64 x := by rw [← (HH.out.2.1.2 i hil hir).2.2 hit.2.2.1, hx]
                    have C8 := owndrop_i HH.out.1.own x1 x2 i hil hit
                    rw [hx] at C8
                    have HC8 := hidp C8
                    have HX := hidp (And.intro hxr (And.intro hit (same_hit HH.out.2.1 hit)))
                    clear C8 hx hxr hit
                    have e1 : (x == x) = true := by simp
                    go_wp2_with fail
                    refine HC8.out.mono ?_
                    rintro e W6 ⟨rfl, O6, K6⟩
                    obtain ⟨P6, X6⟩ := HH.out.1.slab O6 K6
                    have o8 := (X6 b8 (.inr rfl)).trans HB2.out.2
                    have r0 := cells_at o8 0
                    have r1 := cells_at o8 1
                    simp only [List.getElem?_toArray, List.getElem?_cons_succ, List.getElem?_cons_zero] at r0 r1
                    have HP6 := hidp P6
                    clear P6 X6 o8 O6 K6 HC8 y0 y2
                    go_wp2_with fail
                    obtain ⟨RA, hO, hback⟩ := HP6.out.doc
                    have C7 := ownr_drop hO x1 x2 i hir HX.out.2.2
                    rw [HX.out.1] at C7
                    refine C7.mono ?_
                    rintro e W7 ⟨rfl, O7, K7⟩
                    obtain ⟨v7, g7, P7, -⟩ := hback _ _ O7 K7
                    have hgg := (HH.out.2.1.2 i hil hir).1
                    have hsm : Same (L.set i ⟨L[i].gen, false, .int .i64 0⟩) (R.set i ⟨R[i].gen, false, .int .i64 x⟩) := by
                      rw [hgg]
                      exact same_set HH.out.2.1 i _ _ _ _ (by simp)
                    have HF := hidp (And.intro P7 (And.intro hsm (And.intro (show (L.set i ⟨L[i].gen, false, .int .i64 0⟩).length ≤ k + 1 from by have := HH.out.2.2.1; simp; omega) (And.intro (show ∀ d ∈ (L.set i ⟨L[i].gen, false, .int .i64 0⟩), d.gen ≤ k + 1 from fun d hd => by have := set_gens HH.out.2.2.2.1 hil false (.int .i64 0) d hd; omega) (show V.length ≤ k + 1 by have := HH.out.2.2.2.2.1; omega)))))
                    clear hgg hsm
                    clear P7 O7 K7 hO hback C7 HP6 r0 r1
                    go_wp2_with fail
                    refine (ownlen_i HF.out.1.own).mono ?_
                    rintro e W8 ⟨rfl, rfl⟩
                    obtain ⟨RA9, hO9, -⟩ := HF.out.1.doc
                    have C9 := ownr_all hO9
                    rw [← same_all HF.out.2.1, its_cnt] at C9
                    obtain ⟨nn, hnn⟩ : ∃ nn, nn = cnt (L.set i ⟨L[i].gen, false, .int .i64 0⟩) := ⟨_, rfl⟩
                    rw [← hnn] at C9 ⊢
                    have HC9 := hidp C9
                    have t9 : ((nn : Int) != (nn : Int)) = false := by simp
                    clear hO9 C9 hnn
                    go_wp2_with fail
                    refine HC9.out.mono ?_
                    rintro e W9 ⟨⟨oo, rfl, hown9⟩, -, K9⟩
                    obtain ⟨q1, q2, rfl, -⟩ := slice_of hown9
                    have HF9 := hidp (And.intro ((HF.out.1.quiet K9).less (Y := fun _ => False) (by simp)) HF.out.2)
                    clear hown9 K9 HC9
                    go_wp2_with fail
                    go_roundw
                    case rel =>
                      exact ⟨k + 1, by omega, by omega, by simp, _, _, _, _, _, HF9.out⟩
                    case measure => simp [intOf]; omega
                  · have hnr : ∀ i, ¬ Hit R x1 x2 i := fun i h => hit ⟨i, same_hit HH.out.2.1.symm h⟩
                    have HC8 := hidp (owndropno_i HH.out.1.own x1 x2 (fun i h => hit ⟨i, h⟩))
                    have HX := hidp hnr
                    clear hit hnr
                    go_wp2_with fail
                    refine HC8.out.mono ?_
                    rintro e W6 ⟨rfl, O6, K6⟩
                    obtain ⟨P6, X6⟩ := HH.out.1.slab O6 K6
                    have o8 := (X6 b8 (.inr rfl)).trans HB2.out.2
                    have r0 := cells_at o8 0
                    have r1 := cells_at o8 1
                    simp only [List.getElem?_toArray, List.getElem?_cons_succ, List.getElem?_cons_zero] at r0 r1
                    have HP6 := hidp P6
                    clear P6 X6 o8 O6 K6 HC8 y0 y2
                    go_wp2_with fail
                    obtain ⟨RA, hO, hback⟩ := HP6.out.doc
                    refine (ownr_dropno hO x1 x2 HX.out).mono ?_
                    rintro e W7 ⟨rfl, O7, K7⟩
                    obtain ⟨v7, g7, P7, -⟩ := hback _ _ O7 K7
                    have HF := hidp (And.intro P7 (And.intro HH.out.2.1 (And.intro (show L.length ≤ k + 1 from by have := HH.out.2.2.1; omega) (And.intro (show ∀ d ∈ L, d.gen ≤ k + 1 from fun d hd => by have := HH.out.2.2.2.1 d hd; omega) (show V.length ≤ k + 1 by have := HH.out.2.2.2.2.1; omega)))))
                    clear P7 O7 K7 hO hback HP6 r0 r1
                    go_wp2_with fail
                    refine (ownlen_i HF.out.1.own).mono ?_
                    rintro e W8 ⟨rfl, rfl⟩
                    obtain ⟨RA9, hO9, -⟩ := HF.out.1.doc
                    have C9 := ownr_all hO9
                    rw [← same_all HF.out.2.1, its_cnt] at C9
                    obtain ⟨nn, hnn⟩ : ∃ nn, nn = cnt L := ⟨_, rfl⟩
                    rw [← hnn] at C9 ⊢
                    have HC9 := hidp C9
                    have t9 : ((nn : Int) != (nn : Int)) = false := by simp
                    clear hO9 C9 hnn
                    go_wp2_with fail
                    refine HC9.out.mono ?_
                    rintro e W9 ⟨⟨oo, rfl, hown9⟩, -, K9⟩
                    obtain ⟨q1, q2, rfl, -⟩ := slice_of hown9
                    have HF9 := hidp (And.intro ((HF.out.1.quiet K9).less (Y := fun _ => False) (by simp)) HF.out.2)
                    clear hown9 K9 HC9
                    go_wp2_with fail
                    go_roundw
                    case rel =>
                      exact ⟨k + 1, by omega, by omega, by simp, _, _, _, _, _, HF9.out⟩
                    case measure => simp [intOf]; omega
                · have j0 : (o.kind == 0) = false := by simpa using k0
                  have j1 : (o.kind == 1) = false := by simpa using k1
                  have j2 : (o.kind == 2) = false := by simpa using k2
                  have j3 : (o.kind == 3) = false := by simpa using k3
                  clear k0 k1 k2 k3
                  obtain ⟨v, g, low, hsl, -⟩ := HH.out.1.own.slab
                  have C8 := hidp (all18 wc s c L R v v' g g' low hsl HH.out.1.ref HH.out.2.1)
                  clear hsl
                  go_wp2_with fail
                  refine C8.out.mono ?_
                  rintro e W6 ⟨rfl, K6⟩
                  have HF := hidp (And.intro (HH.out.1.quiet K6) (And.intro HH.out.2.1 (And.intro (show L.length ≤ k + 1 by have := HH.out.2.2.1; omega) (And.intro (show ∀ d ∈ L, d.gen ≤ k + 1 from fun d hd => by have := HH.out.2.2.2.1 d hd; omega) (show V.length ≤ k + 1 by have := HH.out.2.2.2.2.1; omega)))))
                  clear C8 K6 y0 y2 r0 r1 j0 j1 j2 j3
                  go_wp2_with fail
                  refine (ownlen_i HF.out.1.own).mono ?_
                  rintro e W8 ⟨rfl, rfl⟩
                  obtain ⟨RA9, hO9, -⟩ := HF.out.1.doc
                  have C9 := ownr_all hO9
                  rw [← same_all HF.out.2.1, its_cnt] at C9
                  obtain ⟨nn, hnn⟩ : ∃ nn, nn = cnt L := ⟨_, rfl⟩
                  rw [← hnn] at C9 ⊢
                  have HC9 := hidp C9
                  have t9 : ((nn : Int) != (nn : Int)) = false := by simp
                  clear hO9 C9 hnn
                  go_wp2_with fail
                  refine HC9.out.mono ?_
                  rintro e W9 ⟨⟨oo, rfl, hown9⟩, -, K9⟩
                  obtain ⟨q1, q2, rfl, -⟩ := slice_of hown9
                  have HF9 := hidp (And.intro ((HF.out.1.quiet K9).less (Y := fun _ => False) (by simp)) HF.out.2)
                  clear hown9 K9 HC9
                  go_wp2_with fail
                  go_roundw
                  case rel =>
                    exact ⟨k + 1, by omega, by omega, by simp, _, _, _, _, _, HF9.out⟩
                  case measure => simp [intOf]; omega
    · have hend : (decide (k < len) = false) ∨ (decide (k < len) = true ∧ decide ((k : Int) < 100) = false) := by
        by_cases h : k < len
        · exact .inr ⟨by simpa using h, by simp; omega⟩
        · exact .inl (by simpa using h)
      obtain ⟨v, g, low, hsl, -⟩ := hP.own.slab
      have C8 := hidp (all18 wr s c L R v v' g g' low hsl hP.ref hS)
      have HK := hidp hP.own.keeps
      clear hsl hP hS hL hG hV hlt
      rcases hend with t1 | ⟨t1, t2⟩
      all_goals
        go_wp2_with fail
        refine C8.out.mono ?_
        rintro e W6 ⟨rfl, K6⟩
        have HF := hidp (HK.out.trans K6)
        clear C8 K6
        go_wp2_with fail
        go_ret
        exact ⟨rfl, HF.out⟩
end Go.Proofs.Ytnhcejbgkhhijaa
