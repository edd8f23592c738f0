/- read, the program's: the walk. -/
import Derived.Test.YtgebjmcdebdbmaaWhole
import Derived.Deep.Cut
import Derived.Deep.RegionHeld3
namespace Go.Proofs.Ytgebjmcdebdbmaa
open Go.RowKit Go.Pairs

/-- three bounds. -/
def bnd (l : P3) (m : Nat) : Prop := (-(1099511627776 * (m : Int)) ≤ l.1 ∧ l.1 ≤ 1099511627776 * m) ∧ (-(1099511627776 * (m : Int)) ≤ l.2.1 ∧ l.2.1 ≤ 1099511627776 * m) ∧ (-(1099511627776 * (m : Int)) ≤ l.2.2 ∧ l.2.2 ≤ 1099511627776 * m)
theorem bnd.bump {l : P3} {M : Nat} (h : bnd l M) (m : Nat) (hm : m < 3) {u : Nat} (hu : u ≤ 1099511627776) : bnd (bump l m (whole u)) (M + 1) := by
  have hw := whole_le hu
  obtain ⟨w, hw'⟩ : ∃ w, w = whole u := ⟨_, rfl⟩
  rw [← hw'] at hw ⊢
  obtain ⟨x, y, z⟩ := l
  unfold bnd at h ⊢
  simp only at h
  match m, hm with
  | 0, _ => simp only [Proofs.Ytgebjmcdebdbmaa.bump]; push_cast; omega
  | 1, _ => simp only [Proofs.Ytgebjmcdebdbmaa.bump]; push_cast; omega
  | 2, _ => simp only [Proofs.Ytgebjmcdebdbmaa.bump]; push_cast; omega
theorem cell_three_new (w : World) (x y z : Value) (t : TypeId) : ∀ j q, [x, y, z][j]? = some q → (w.alloc (.cells #[x, y, z] t)).cell? ((⟨w.heap.size, 0, none⟩ : Addr).add j) = some q := by
  intro j q hj
  match j, hj with
  | 0, hj => simp at hj; subst hj; simp [Addr.add]
  | 1, hj => simp at hj; subst hj; exact cells_at (heap_alloc_new w _) 1
  | 2, hj => simp at hj; subst hj; exact cells_at (heap_alloc_new w _) 2
def bodyL (bs : List Nat) : List P3 := (bodyN bs).getD []
def ReadP (w : World) (bs : List Nat) (e : Ending) (w' : World) : Prop :=
  (∃ oa oc, e = .returned (.tuple #[.slice oa (bodyL bs).length oc, .bool (bodyN bs).isSome]) ∧ PT w' oa (bodyL bs) ∧ (bodyL bs).length ≤ 512 ∧ ∀ k, some k = (Value.slice oa (bodyL bs).length oc).ownBlock → w.heap.size ≤ k) ∧ Keeps (fun _ => False) w w'
theorem read_bad {w w' : World} {bs : List Nat} (hb : bodyN bs = none) (hk : Keeps (fun _ => False) w w') : ReadP w bs (.returned (.tuple #[.slice none 0 0, .bool false])) w' := by
  have h0 : bodyL bs = [] := by unfold bodyL; rw [hb]; rfl
  refine ⟨⟨none, 0, by rw [h0, hb]; rfl, ?_, by rw [h0]; simp, fun k e => by simp [Value.ownBlock] at e⟩, hk⟩
  rw [h0]
  exact ⟨fun i hi => by simp at hi, by simp⟩

set_option maxRecDepth 100000 in
set_option maxHeartbeats 4000000 in
theorem read_walk (w : World) (so : Option Addr) (cap : Nat) (bs : List Nat) (h : BS w so bs) (hcap : bs.length ≤ cap) :
    Calls Try.prog 27 #[.slice so bs.length cap] w fun e w' => ReadP w bs e w' := by
  obtain ⟨i0, hi, hz0, hz1, hz2⟩ := info_parts info53
  have HB := hidp h
  have hl := h.2.2
  clear h
  go_enter Try.func27, Try.ntmps27
  by_cases h0 : bs.length = 0
  · have t1 : ((bs.length : Int) == 0) = true := by simpa using h0
    have HE := hidp (show bodyN bs = none by rw [List.length_eq_zero_iff.1 h0]; rfl)
    clear h0
    go_wp2
    go_ret2
    exact read_bad HE.out (Keeps.refl _ _)
  have t1 : ((bs.length : Int) == 0) = false := by simpa using h0
  have hpos : (0 : Int) < bs.length := by omega
  obtain ⟨b, off, hso, c0⟩ := HB.out.1 0 (by omega)
  subst hso
  obtain ⟨c, hc⟩ : ∃ c, c = bs[0] := ⟨_, rfl⟩
  obtain ⟨t, ht⟩ : ∃ t, t = bs.drop 1 := ⟨_, rfl⟩
  have hbs : bs = c :: t := by
    rw [hc, ht]
    cases bs with
    | nil => simp at h0
    | cons c t => rfl
  rw [Nat.add_zero, ← hc] at c0
  have HC := hidp hbs
  have HT := hidp ht
  clear h0 hbs hc
  by_cases hc67 : c = 67
  · subst hc67
    obtain ⟨so1, hsl, hb1⟩ := run_cut HB.out cap 1 (by omega) hcap
    rw [← ht] at hb1
    have HB1 := hidp hb1
    have htl : bs.length - 1 = t.length := by rw [ht, List.length_drop]
    have CT := hidp (take_walk w so1 (cap - 1) t (hb1 w HB.out))
    rw [htl] at hsl
    have hsl' : (Instr.slice 23 (.slice (some ⟨b, off, none⟩) bs.length cap) (some (.int .i64 1)) none none).run Try.prog w = .ok (.slice so1 t.length (cap - 1)) w := hsl w
    have HTL := hidp htl
    clear hsl hb1 ht htl
    go_wp2_with fail
    refine CT.out.mono ?_
    rintro e W1 ⟨rfl, rfl⟩
    clear CT
    have HTK := hidp (show bodyN bs = (match takeN t with | none => none | some q => if 512 < q.1 then none else goN q.1 (t.drop q.2) (0, 0, 0)) by rw [HC.out]; rfl)
    obtain ⟨tn, htn⟩ : ∃ tn, tn = takeN t := ⟨_, rfl⟩
    rw [← htn] at HTK ⊢
    cases tn with
    | none =>
      simp only [takeV]
      clear hsl' htn
      go_wp2
      go_ret2
      exact read_bad HTK.out (Keeps.refl _ _)
    | some q =>
      obtain ⟨n, k⟩ := q
      obtain ⟨hk1, hk2, hk10, hn64⟩ := takeN_size htn.symm
      simp only [takeV]
      simp only at hk1 hk2 hk10 hn64
      clear hsl' htn
      by_cases hmany : 512 < n
      · have t3 : decide (512 < n) = true := by simpa using hmany
        have t3' : decide ((512 : Int) < n) = true := by simp; omega
        have HE := hidp (show bodyN bs = none by rw [HTK.out]; exact if_pos hmany)
        clear hmany
        go_wp2
        go_ret2
        exact read_bad HE.out (Keeps.refl _ _)
      · have t3 : decide (512 < n) = false := by simpa using hmany
        have t3' : decide ((512 : Int) < n) = false := by simp; omega
        have HE := hidp (show bodyN bs = goN n (t.drop k) (0, 0, 0) by rw [HTK.out]; exact if_neg hmany)
        have hn512 : n ≤ 512 := by omega
        clear hmany HTK
        have hlen1 : bs.length = t.length + 1 := by rw [HC.out]; rfl
        have HLN := hidp hlen1
        obtain ⟨so2, hsl, hb2⟩ := run_cut HB.out cap (1 + k) (by omega) hcap
        have hd : bs.drop (1 + k) = t.drop k := by rw [HC.out, Nat.add_comm]; rfl
        rw [hd] at hb2
        obtain ⟨bs2, hbs2⟩ : ∃ x, x = t.drop k := ⟨_, rfl⟩
        have hl2 : bs.length - (1 + k) = bs2.length := by rw [hbs2, List.length_drop]; omega
        rw [← hbs2] at HE hb2
        rw [hl2] at hsl
        have hsl' : (Instr.slice 23 (.slice (some ⟨b, off, none⟩) bs.length cap) (some (.int .i64 (1 + (k : Int)))) none none).run Try.prog W1 = .ok (.slice so2 bs2.length (cap - (1 + k))) W1 := by
          have := hsl W1
          rwa [show ((1 + k : Nat) : Int) = 1 + (k : Int) by omega] at this
        have hw1k : IntKind.i64.wrap (1 + (k : Int)) = 1 + (k : Int) := IntWalk.i64_in _ (by omega)
        have HB2 := hidp (hb2 W1 HB.out)
        have hcap2 : bs2.length ≤ cap - (1 + k) := by omega
        have HBL := hidp hl2
        clear hd hl2 hsl hlen1 hbs2 hb2
        obtain ⟨lb, hlb⟩ : ∃ lb, lb = W1.heap.size := ⟨_, rfl⟩
        obtain ⟨W2, hW2⟩ : ∃ W2, W2 = W1.alloc (.cells #[.int .i64 0, .int .i64 0, .int .i64 0] 54) := ⟨_, rfl⟩
        have S0 : RS 54 W1 W2 lb (0, 0, 0) [] (.slice none 0 0) :=
          ⟨hW2 ▸ (Keeps.refl _ _).alloc _, World.ownsRow_nil W2 W1.heap.size 53 3, by rw [hlb, hW2]; exact heap_alloc_new _ _, by omega, by simp [Value.ownBlock]⟩
        have HS0 := hidp (And.intro S0 HB2.out)
        clear S0
        go_upto_region 9 with (fail)
        rw [← hW2]
        simp only [← hlb]
        clear hW2 hlb hsl' hw1k
        go_wp2
        go_loopw [0, 7, 40] (fun v0 v i wr => ∃ (K : Nat) (X : List P3) (l : P3) (rs : List Nat) (ro : Option Addr) (rc : Nat), K ≤ n ∧ i = .int .u64 K ∧ RS 54 W1 wr lb l X v ∧ X.length = K ∧ goN n bs2 (0, 0, 0) = (goN (n - K) rs l).map (X ++ ·) ∧ v0 = .slice ro rs.length rc ∧ BS W1 ro rs ∧ rs.length ≤ rc ∧ rs.length ≤ bs2.length ∧ bnd l (3 * K)) (fun _ _ i _ => n - (intOf i).toNat)
        case atStart => exact ⟨0, [], (0, 0, 0), bs2, so2, cap - (1 + k), Nat.zero_le _, rfl, HS0.out.1, rfl, by simp, rfl, HS0.out.2, hcap2, Nat.le_refl _, by simp [bnd]⟩
        case round =>
          obtain ⟨K, X, l, rs, ro, rc, hK, rfl, S, hX, hgo, rfl, hrs, hrc, hrl, hbn⟩ := hrel
          clear HS0 HB2 hcap2
          obtain ⟨x1, x2, hve, hvz⟩ := slice_of S.row
          rw [hX] at hve
          subst hve
          have HG := hidp (And.intro hX hgo)
          have HS := hidp S
          have HR := hidp (And.intro hrs hbn)
          clear hX hgo S hrs hbn
          by_cases hlt : K < n
          · have t4 : decide (K < n) = true := by simpa using hlt
            have t4' : decide ((K : Int) < n) = true := by simp; omega
            have hwK : IntKind.u64.wrap ((K : Int) + 1) = (K : Int) + 1 := by rw [IntKind.wrap_u64]; omega
            have hgo0 : goN n bs2 (0, 0, 0) = (tailF (fun bs l => (goN (n - K - 1) bs l).map (l :: ·)) 0 rs l).map (X ++ ·) := by
              rw [HG.out.2]
              obtain ⟨d, hd⟩ : ∃ d, n - K = d + 1 := ⟨n - K - 1, by omega⟩
              rw [hd]
              rfl
            have HG0 := hidp hgo0
            clear hgo0
            go_upto_region 12 with (fail)
            go_loopw [0, 42] (fun v0 j wq => ∃ (m : Nat) (l' : P3) (rs' : List Nat) (ro' : Option Addr) (rc' : Nat), m ≤ 3 ∧ j = .int .i64 m ∧ RS 54 W1 wq lb l' X (.slice x1 K x2) ∧ goN n bs2 (0, 0, 0) = (tailF (fun bs l => (goN (n - K - 1) bs l).map (l :: ·)) m rs' l').map (X ++ ·) ∧ v0 = .slice ro' rs'.length rc' ∧ BS W1 ro' rs' ∧ rs'.length ≤ rc' ∧ rs'.length ≤ bs2.length ∧ bnd l' (3 * K + m)) (fun _ j _ => 3 - (intOf j).toNat)
            case atStart => exact ⟨0, l, rs, ro, rc, by omega, rfl, HS.out, HG0.out, rfl, HR.out.1, hrc, hrl, HR.out.2⟩
            case round =>
              obtain ⟨m, l', rs', ro', rc', hm, rfl, S', hgo', rfl, hrs', hrc', hrl', hbn'⟩ := hrel
              have HG' := hidp hgo'
              have HS' := hidp S'
              have HR' := hidp (And.intro hrs' hbn')
              have CT := hidp (take_walk wr ro' rc' rs' (hrs'.keep HS'.out.keeps))
              have hrsb : rs'.length ≤ 9223372036854775807 := hrs'.2.2
              clear hgo' S' hrs' hbn' HS HR hrc hrl HG0
              obtain rfl | rfl | rfl | rfl : m = 0 ∨ m = 1 ∨ m = 2 ∨ m = 3 := by omega
              · obtain ⟨tn, htn⟩ : ∃ tn, tn = takeN rs' := ⟨_, rfl⟩
                have HT := hidp htn
                rw [← htn] at CT
                clear htn
                go_wp2_with fail
                refine CT.out.mono ?_
                rintro e W5 ⟨rfl, rfl⟩
                clear CT
                cases tn with
                | none =>
                  have hbad : bodyN bs = none := by
                    rw [HE.out, HG'.out, tailF_step _ 0 (by omega), step1, ← HT.out]; rfl
                  have HBD := hidp hbad
                  simp only [takeV]
                  clear hbad
                  go_wp2
                  go_ret2
                  exact read_bad HBD.out HS'.out.keeps
                | some q =>
                  obtain ⟨u, uk⟩ := q
                  obtain ⟨hk1, hk2, hk10, hn64⟩ := takeN_size HT.out.symm
                  simp only [takeV]
                  simp only at hk1 hk2 hk10 hn64
                  by_cases hbig : 1099511627776 < u
                  · have t5 : decide (1099511627776 < u) = true := by simpa using hbig
                    have t5' : decide ((1099511627776 : Int) < u) = true := by simp; omega
                    have hbad : bodyN bs = none := by
                      rw [HE.out, HG'.out, tailF_step _ 0 (by omega), step1, ← HT.out]
                      simp only [if_pos hbig]; rfl
                    have HBD := hidp hbad
                    clear hbad hbig
                    go_wp2
                    go_ret2
                    exact read_bad HBD.out HS'.out.keeps
                  · have t5 : decide (1099511627776 < u) = false := by simpa using hbig
                    have t5' : decide ((1099511627776 : Int) < u) = false := by simp; omega
                    have hu : u ≤ 1099511627776 := by omega
                    have hgo2 : goN n bs2 (0, 0, 0) = (tailF (fun bs l => (goN (n - K - 1) bs l).map (l :: ·)) 1 (rs'.drop uk) (bump l' 0 (whole u))).map (X ++ ·) := by
                      rw [HG'.out, tailF_step _ 0 (by omega), step1, ← HT.out]
                      simp only [if_neg hbig]
                    obtain ⟨so3, hsl, hb3⟩ := run_cut HR'.out.1 rc' uk hk2 hrc'
                    obtain ⟨rs3, hrs3⟩ : ∃ x, x = rs'.drop uk := ⟨_, rfl⟩
                    have hl3 : rs'.length - uk = rs3.length := by rw [hrs3, List.length_drop]
                    rw [← hrs3] at hb3 hgo2
                    rw [hl3] at hsl
                    have hsl' := hsl W5
                    have hcap3 : rs3.length ≤ rc' - uk := by omega
                    have hrl3 : rs3.length ≤ bs2.length := by omega
                    have hbn3 := HR'.out.2.bump 0 (by omega) hu
                    obtain ⟨wu, hwu⟩ : ∃ x, x = whole u := ⟨_, rfl⟩
                    have CW : ∀ W, Calls Try.prog 31 #[.int .u64 u] W fun e w' => e = .returned (.int .i64 wu) ∧ w' = W := fun W => hwu ▸ whole_walk W u hu
                    rw [← hwu] at hbn3 hgo2
                    have S9 := HS'.out.set 0 (by omega) wu _ rfl
                    obtain ⟨lx, ly, lz⟩ := l'
                    have g0 : W5.cell? ⟨lb, 0, none⟩ = some (.int .i64 lx) := by simpa using cells_at HS'.out.box 0
                    have f0 := free_at HS'.out.box 0
                    have hsum : IntKind.i64.wrap (lx + wu) = lx + wu := by
                      apply IntWalk.i64_in
                      unfold bnd at hbn3
                      simp only [bump] at hbn3
                      push_cast at hbn3
                      omega
                    have HF := hidp (And.intro hgo2 (And.intro hbn3 (And.intro hb3 CW)))
                    have HF9 := hidp S9
                    clear hbig hgo2 hbn3 hb3 CW S9 hl3 hrs3 hsl hwu
                    have HD := hidp (HF9.out.quiet ((Keeps.refl _ _).drew))
                    have hBS3 := hidp (HF.out.2.2.1 W1 HR'.out.1)
                    go_upto_region 18 with (fail)
                    go_region_with ((first | (refine (HF.out.2.2.2 _).mono ?_; rintro e W6 ⟨rfl, rfl⟩)))
                    all_goals
                      clear hsl' g0 f0 hsum HF9
                      go_wp2
                      exact ⟨⟨1, bump (lx, ly, lz) 0 wu, rs3, so3, rc' - uk, by omega, rfl, HD.out, HF.out.1, rfl, hBS3.out, hcap3, hrl3, HF.out.2.1⟩, by simp [intOf]⟩
              · obtain ⟨tn, htn⟩ : ∃ tn, tn = takeN rs' := ⟨_, rfl⟩
                have HT := hidp htn
                rw [← htn] at CT
                clear htn
                go_wp2_with fail
                refine CT.out.mono ?_
                rintro e W5 ⟨rfl, rfl⟩
                clear CT
                cases tn with
                | none =>
                  have hbad : bodyN bs = none := by
                    rw [HE.out, HG'.out, tailF_step _ 1 (by omega), step1, ← HT.out]; rfl
                  have HBD := hidp hbad
                  simp only [takeV]
                  clear hbad
                  go_wp2
                  go_ret2
                  exact read_bad HBD.out HS'.out.keeps
                | some q =>
                  obtain ⟨u, uk⟩ := q
                  obtain ⟨hk1, hk2, hk10, hn64⟩ := takeN_size HT.out.symm
                  simp only [takeV]
                  simp only at hk1 hk2 hk10 hn64
                  by_cases hbig : 1099511627776 < u
                  · have t5 : decide (1099511627776 < u) = true := by simpa using hbig
                    have t5' : decide ((1099511627776 : Int) < u) = true := by simp; omega
                    have hbad : bodyN bs = none := by
                      rw [HE.out, HG'.out, tailF_step _ 1 (by omega), step1, ← HT.out]
                      simp only [if_pos hbig]; rfl
                    have HBD := hidp hbad
                    clear hbad hbig
                    go_wp2
                    go_ret2
                    exact read_bad HBD.out HS'.out.keeps
                  · have t5 : decide (1099511627776 < u) = false := by simpa using hbig
                    have t5' : decide ((1099511627776 : Int) < u) = false := by simp; omega
                    have hu : u ≤ 1099511627776 := by omega
                    have hgo2 : goN n bs2 (0, 0, 0) = (tailF (fun bs l => (goN (n - K - 1) bs l).map (l :: ·)) 2 (rs'.drop uk) (bump l' 1 (whole u))).map (X ++ ·) := by
                      rw [HG'.out, tailF_step _ 1 (by omega), step1, ← HT.out]
                      simp only [if_neg hbig]
                    obtain ⟨so3, hsl, hb3⟩ := run_cut HR'.out.1 rc' uk hk2 hrc'
                    obtain ⟨rs3, hrs3⟩ : ∃ x, x = rs'.drop uk := ⟨_, rfl⟩
                    have hl3 : rs'.length - uk = rs3.length := by rw [hrs3, List.length_drop]
                    rw [← hrs3] at hb3 hgo2
                    rw [hl3] at hsl
                    have hsl' := hsl W5
                    have hcap3 : rs3.length ≤ rc' - uk := by omega
                    have hrl3 : rs3.length ≤ bs2.length := by omega
                    have hbn3 := HR'.out.2.bump 1 (by omega) hu
                    obtain ⟨wu, hwu⟩ : ∃ x, x = whole u := ⟨_, rfl⟩
                    have CW : ∀ W, Calls Try.prog 31 #[.int .u64 u] W fun e w' => e = .returned (.int .i64 wu) ∧ w' = W := fun W => hwu ▸ whole_walk W u hu
                    rw [← hwu] at hbn3 hgo2
                    have S9 := HS'.out.set 1 (by omega) wu _ rfl
                    obtain ⟨lx, ly, lz⟩ := l'
                    have g0 : W5.cell? ⟨lb, 1, none⟩ = some (.int .i64 ly) := by simpa using cells_at HS'.out.box 1
                    have f0 := free_at HS'.out.box 1
                    have hsum : IntKind.i64.wrap (ly + wu) = ly + wu := by
                      apply IntWalk.i64_in
                      unfold bnd at hbn3
                      simp only [bump] at hbn3
                      push_cast at hbn3
                      omega
                    have HF := hidp (And.intro hgo2 (And.intro hbn3 (And.intro hb3 CW)))
                    have HF9 := hidp S9
                    clear hbig hgo2 hbn3 hb3 CW S9 hl3 hrs3 hsl hwu
                    have HD := hidp (HF9.out.quiet ((Keeps.refl _ _).drew))
                    have hBS3 := hidp (HF.out.2.2.1 W1 HR'.out.1)
                    go_upto_region 18 with (fail)
                    go_region_with ((first | (refine (HF.out.2.2.2 _).mono ?_; rintro e W6 ⟨rfl, rfl⟩)))
                    all_goals
                      clear hsl' g0 f0 hsum HF9
                      go_wp2
                      exact ⟨⟨2, bump (lx, ly, lz) 1 wu, rs3, so3, rc' - uk, by omega, rfl, HD.out, HF.out.1, rfl, hBS3.out, hcap3, hrl3, HF.out.2.1⟩, by simp [intOf]⟩
              · obtain ⟨tn, htn⟩ : ∃ tn, tn = takeN rs' := ⟨_, rfl⟩
                have HT := hidp htn
                rw [← htn] at CT
                clear htn
                go_wp2_with fail
                refine CT.out.mono ?_
                rintro e W5 ⟨rfl, rfl⟩
                clear CT
                cases tn with
                | none =>
                  have hbad : bodyN bs = none := by
                    rw [HE.out, HG'.out, tailF_step _ 2 (by omega), step1, ← HT.out]; rfl
                  have HBD := hidp hbad
                  simp only [takeV]
                  clear hbad
                  go_wp2
                  go_ret2
                  exact read_bad HBD.out HS'.out.keeps
                | some q =>
                  obtain ⟨u, uk⟩ := q
                  obtain ⟨hk1, hk2, hk10, hn64⟩ := takeN_size HT.out.symm
                  simp only [takeV]
                  simp only at hk1 hk2 hk10 hn64
                  by_cases hbig : 1099511627776 < u
                  · have t5 : decide (1099511627776 < u) = true := by simpa using hbig
                    have t5' : decide ((1099511627776 : Int) < u) = true := by simp; omega
                    have hbad : bodyN bs = none := by
                      rw [HE.out, HG'.out, tailF_step _ 2 (by omega), step1, ← HT.out]
                      simp only [if_pos hbig]; rfl
                    have HBD := hidp hbad
                    clear hbad hbig
                    go_wp2
                    go_ret2
                    exact read_bad HBD.out HS'.out.keeps
                  · have t5 : decide (1099511627776 < u) = false := by simpa using hbig
                    have t5' : decide ((1099511627776 : Int) < u) = false := by simp; omega
                    have hu : u ≤ 1099511627776 := by omega
                    have hgo2 : goN n bs2 (0, 0, 0) = (tailF (fun bs l => (goN (n - K - 1) bs l).map (l :: ·)) 3 (rs'.drop uk) (bump l' 2 (whole u))).map (X ++ ·) := by
                      rw [HG'.out, tailF_step _ 2 (by omega), step1, ← HT.out]
                      simp only [if_neg hbig]
                    obtain ⟨so3, hsl, hb3⟩ := run_cut HR'.out.1 rc' uk hk2 hrc'
                    obtain ⟨rs3, hrs3⟩ : ∃ x, x = rs'.drop uk := ⟨_, rfl⟩
                    have hl3 : rs'.length - uk = rs3.length := by rw [hrs3, List.length_drop]
                    rw [← hrs3] at hb3 hgo2
                    rw [hl3] at hsl
                    have hsl' := hsl W5
                    have hcap3 : rs3.length ≤ rc' - uk := by omega
                    have hrl3 : rs3.length ≤ bs2.length := by omega
                    have hbn3 := HR'.out.2.bump 2 (by omega) hu
                    obtain ⟨wu, hwu⟩ : ∃ x, x = whole u := ⟨_, rfl⟩
                    have CW : ∀ W, Calls Try.prog 31 #[.int .u64 u] W fun e w' => e = .returned (.int .i64 wu) ∧ w' = W := fun W => hwu ▸ whole_walk W u hu
                    rw [← hwu] at hbn3 hgo2
                    have S9 := HS'.out.set 2 (by omega) wu _ rfl
                    obtain ⟨lx, ly, lz⟩ := l'
                    have g0 : W5.cell? ⟨lb, 2, none⟩ = some (.int .i64 lz) := by simpa using cells_at HS'.out.box 2
                    have f0 := free_at HS'.out.box 2
                    have hsum : IntKind.i64.wrap (lz + wu) = lz + wu := by
                      apply IntWalk.i64_in
                      unfold bnd at hbn3
                      simp only [bump] at hbn3
                      push_cast at hbn3
                      omega
                    have HF := hidp (And.intro hgo2 (And.intro hbn3 (And.intro hb3 CW)))
                    have HF9 := hidp S9
                    clear hbig hgo2 hbn3 hb3 CW S9 hl3 hrs3 hsl hwu
                    have HD := hidp (HF9.out.quiet ((Keeps.refl _ _).drew))
                    have hBS3 := hidp (HF.out.2.2.1 W1 HR'.out.1)
                    go_upto_region 18 with (fail)
                    go_region_with ((first | (refine (HF.out.2.2.2 _).mono ?_; rintro e W6 ⟨rfl, rfl⟩)))
                    all_goals
                      clear hsl' g0 f0 hsum HF9
                      go_wp2
                      exact ⟨⟨3, bump (lx, ly, lz) 2 wu, rs3, so3, rc' - uk, by omega, rfl, HD.out, HF.out.1, rfl, hBS3.out, hcap3, hrl3, HF.out.2.1⟩, by simp [intOf]⟩
              · have g0 := cells_at HS'.out.box 0
                have g1 := cells_at HS'.out.box 1
                have g2 := cells_at HS'.out.box 2
                simp only [List.getElem?_toArray, List.getElem?_cons_zero, List.getElem?_cons_succ] at g0 g1 g2
                obtain ⟨lx, ly, lz⟩ := l'
                simp only at g0 g1 g2
                have S8 := HS'.out.quiet (W' := wr.alloc (.cells #[.int .i64 lx, .int .i64 ly, .int .i64 lz] 53)) ((Keeps.refl _ _).alloc _)
                have hn8 := cell_three_new wr (.int .i64 lx) (.int .i64 ly) (.int .i64 lz) 53
                have HS8 := hidp (And.intro S8 hn8)
                have HZ8 := hidp S8.keeps.size
                have hrow8 : (wr.alloc (.cells #[.int .i64 lx, .int .i64 ly, .int .i64 lz] 53)).ownsRow W1.heap.size 53 3 (.slice x1 K x2) K (pcs X) := by have := S8.row; rw [HG.out.1] at this; exact this
                have HR8 := hidp hrow8
                clear S8 hn8 hrow8 CT
                go_wp2_with (at_builtin; refine wpList_append_own_at _ rfl _ _ 35 rfl W1.heap.size 53 i0 (.agg #[.int .i64 0, .int .i64 0, .int .i64 0]) 3 24 Try.underlying35 hi hz0 hz1 hz2 rfl (by decide) _ _ _ rfl HR8.out ⟨wr.heap.size, 0, none⟩ 1 1 _ rfl ?c1 HS8.out.2 ?c2 ?c3 ?c4 ?c5 ?_)
                case c1 => rfl
                case c2 => intro u hu; simp at hu; rcases hu with rfl | rfl | rfl <;> rfl
                case c3 => unfold maxLen; omega
                case c4 => omega
                case c5 => exact HZ8.out
                intro v' W9 hown9 hgr9 hnil9 hloc9
                have hX := HG.out.1
                have S9 := RS.push HS8.out.1 (lx, ly, lz) (by rw [hX]; exact hown9) hgr9 (hloc9.imp id fun e => e.trans (congrArg some (Array.size_push ..).symm))
                have HF := hidp (And.intro S9 hX)
                clear hown9 hgr9 hnil9 hloc9 hX S9 HS8 HZ8 HR8
                have hgn : goN n bs2 (0, 0, 0) = (goN (n - (K + 1)) rs' (lx, ly, lz)).map ((X ++ [(lx, ly, lz)]) ++ ·) := by
                  rw [HG'.out]
                  show Option.map _ (Option.map _ (goN (n - K - 1) rs' (lx, ly, lz))) = _
                  rw [Option.map_map, Nat.sub_sub]
                  congr 1
                  funext y
                  simp
                have HGN := hidp hgn
                clear hgn
                go_wp2
                refine ⟨⟨K + 1, X ++ [(lx, ly, lz)], (lx, ly, lz), rs', ro', rc', by omega, by simp, HF.out.1, by rw [List.length_append, HF.out.2]; rfl, HGN.out, rfl, HR'.out.1, hrc', hrl', HR'.out.2⟩, by simp [intOf]; omega⟩
          · obtain rfl : K = n := by omega
            have t4 : decide (K < K) = false := by simp
            have t4' : decide ((K : Int) < K) = false := by simp
            have hgoK : bodyN bs = some X := by
              rw [HE.out, HG.out.2, Nat.sub_self]
              simp [goN]
            have hbl : bodyL bs = X := by unfold bodyL; rw [hgoK]; rfl
            have hcapx : X.length ≤ x2 := by
              rcases HS.out.row.2 with ⟨h1, h2⟩ | ⟨g', cp, cur, h1, -, -, h2, -⟩
              · simp at h1; omega
              · simp at h1; omega
            have hnone : x1 = none → K = 0 ∧ x2 = 0 := fun e => by
              rcases HS.out.row.2 with ⟨h1, h2⟩ | ⟨g', cp, cur, h1, -, -, h2, -⟩
              · simp at h1; omega
              · simp at h1; rw [e] at h1; simp at h1
            have hst := run_top wr x1 K x2 (by have := HG.out.1; omega) hnone
            have HF := hidp (And.intro hgoK hbl)
            clear hgoK hbl hcapx hnone
            go_wp2
            go_ret2
            have hrow : wr.ownsRow W1.heap.size 53 3 (.slice x1 X.length x2) X.length (pcs X) := by rw [HG.out.1]; have := HS.out.row; rw [HG.out.1] at this; exact this
            refine ⟨⟨x1, K, ?_, ?_, by rw [HF.out.2, HG.out.1]; omega, fun k e => ?_⟩, HS.out.keeps⟩
            · rw [HF.out.2, HG.out.1, HF.out.1]; rfl
            · rw [HF.out.2]; exact pt_own hrow (by rw [HG.out.1]; omega)
            · exact own_ge hrow k (by cases x1 with | none => simp [Value.ownBlock] at e | some a => exact e)
  · have t2 : ((c : Int) == 67) = false := by simp; omega
    have HE := hidp (show bodyN bs = none by rw [HC.out]; exact if_neg hc67)
    clear hc67 ht
    go_wp2
    go_ret2
    exact read_bad HE.out (Keeps.refl _ _)
end Go.Proofs.Ytgebjmcdebdbmaa
