/- Read, the document's: the walk. -/
import Derived.Test.YtgebjmcdebdbmaaReadW
import Derived.Test.YtgebjmcdebdbmaaPlain
import Derived.Test.YtgebjmcdebdbmaaSmall
import Derived.Deep.RegionHeld3
import Derived.StillTailTactics
namespace Go.Proofs.Ytgebjmcdebdbmaa
open Go.RowKit Go.Pairs

theorem ok_six {bs : List Nat} {l : List P3} (h : okN bs = some l) : 6 ≤ bs.length := by
  obtain ⟨hc, hw⟩ := ok_from h
  have := write_len (ps := l)
  have e : writeV l = writeN l := if_pos hc
  rw [← hw, e]
  exact this
theorem ok_short {bs : List Nat} (h : bs.length < 6) : okN bs = none := by
  cases e : okN bs with
  | none => rfl
  | some l => have := ok_six e; omega
theorem ok_nobody {bs : List Nat} (h : bodyN bs = none) : okN bs = none := by unfold okN; rw [h]
def RrP (w : World) (bs : List Nat) (e : Ending) (w' : World) : Prop :=
  (∃ oa oc, e = .returned (.tuple #[.slice oa (okL bs).length oc, .bool (okN bs).isSome]) ∧ PT w' oa (okL bs) ∧ (okL bs).length ≤ 512) ∧ Keeps (fun _ => False) w w'
theorem rr_bad {w w' : World} {bs : List Nat} (hb : okN bs = none) (hk : Keeps (fun _ => False) w w') : RrP w bs (.returned (.tuple #[.slice none 0 0, .bool false])) w' := by
  have h0 : okL bs = [] := by unfold okL; rw [hb]; rfl
  refine ⟨⟨none, 0, by rw [h0, hb]; rfl, ?_, by rw [h0]; simp⟩, hk⟩
  rw [h0]
  exact ⟨fun i hi => by simp at hi, by simp⟩

set_option maxRecDepth 100000 in
set_option maxHeartbeats 4000000 in
theorem refread_walk (w : World) (so : Option Addr) (cap : Nat) (bs : List Nat) (h : BS w so bs) (hcap : bs.length ≤ cap) :
    Calls Try.prog 26 #[.slice so bs.length cap] w fun e w' => RrP w bs e w' := by
  obtain ⟨i0, hi, hz0, hz1, hz2⟩ := info_parts info53
  have HB := hidp h
  have hl := h.2.2
  clear h
  go_enter Try.func26, Try.ntmps26
  by_cases h0 : bs.length < 6
  · have t1 : decide (bs.length < 6) = true := by simpa using h0
    have t1' : decide ((bs.length : Int) < 6) = true := by simp; omega
    have HE := hidp (ok_short h0)
    clear h0
    go_wp2
    go_ret2
    exact rr_bad HE.out (Keeps.refl _ _)
  have t1 : decide (bs.length < 6) = false := by simpa using h0
  have t1' : decide ((bs.length : Int) < 6) = false := by simp; omega
  have hpos : (0 : Int) < bs.length := by omega
  obtain ⟨b, off, hso, c0⟩ := HB.out.1 0 (by omega)
  subst hso
  obtain ⟨c, hc⟩ : ∃ c, c = bs[0] := ⟨_, rfl⟩
  obtain ⟨t, ht⟩ : ∃ t, t = bs.drop 1 := ⟨_, rfl⟩
  have hbs : bs = c :: t := by
    rw [hc, ht]
    cases bs with
    | nil => simp at h0
    | cons c t => rfl
  rw [Nat.add_zero, ← hc] at c0
  have HC := hidp hbs
  have HT := hidp ht
  clear h0 hbs hc
  by_cases hc67 : c = 67
  · subst hc67
    obtain ⟨so1, hsl, hb1⟩ := run_cut HB.out cap 1 (by omega) hcap
    rw [← ht] at hb1
    have htl : bs.length - 1 = t.length := by rw [ht, List.length_drop]
    have CT := hidp (reftake_walk w so1 (cap - 1) t (hb1 w HB.out))
    rw [htl] at hsl
    have hsl' : (Instr.slice 23 (.slice (some ⟨b, off, none⟩) bs.length cap) (some (.int .i64 1)) none none).run Try.prog w = .ok (.slice so1 t.length (cap - 1)) w := hsl w
    clear hsl hb1 ht htl
    go_wp2_with fail
    refine CT.out.mono ?_
    rintro e W1 ⟨rfl, K1⟩
    clear CT
    have HTK := hidp (show bodyN bs = (match takeN t with | none => none | some q => if 512 < q.1 then none else goN q.1 (t.drop q.2) (0, 0, 0)) by rw [HC.out]; rfl)
    obtain ⟨tn, htn⟩ : ∃ tn, tn = takeN t := ⟨_, rfl⟩
    rw [← htn] at HTK ⊢
    cases tn with
    | none =>
      simp only [takeR]
      obtain ⟨rb, hrb⟩ : ∃ rb, rb = W1.heap.size := ⟨_, rfl⟩
      obtain ⟨W3, hW3⟩ : ∃ W3, W3 = W1.alloc (.cells #[.int .u64 0, .int .i64 0, .bool false] 28) := ⟨_, rfl⟩
      have hr3 : W3.heap[rb]? = some (.cells #[.int .u64 0, .int .i64 0, .bool false] 28 (0, 0)) := by rw [hW3, hrb]; exact heap_alloc_new _ _
      have z0 := cells_at hr3 0
      have z2 := cells_at hr3 2
      simp only [List.getElem?_toArray, List.getElem?_cons_zero, List.getElem?_cons_succ] at z0 z2
      have HK3 := hidp (K1.trans (hW3 ▸ (Keeps.refl (fun _ => False) W1).alloc _) : Keeps (fun _ => False) w W3)
      clear hsl' htn K1 hr3
      go_upto_region 4 with (fail)
      rw [← hW3]
      simp only [← hrb]
      clear hW3 hrb
      go_wp2
      go_ret2
      exact rr_bad (ok_nobody HTK.out) HK3.out
    | some q =>
      obtain ⟨n, k⟩ := q
      obtain ⟨hk1, hk2, hk10, hn64⟩ := takeN_size htn.symm
      simp only [takeR]
      simp only at hk1 hk2 hk10 hn64
      obtain ⟨rb, hrb⟩ : ∃ rb, rb = W1.heap.size := ⟨_, rfl⟩
      obtain ⟨W3, hW3⟩ : ∃ W3, W3 = W1.alloc (.cells #[.int .u64 n, .int .i64 k, .bool true] 28) := ⟨_, rfl⟩
      have hr3 : W3.heap[rb]? = some (.cells #[.int .u64 n, .int .i64 k, .bool true] 28 (0, 0)) := by rw [hW3, hrb]; exact heap_alloc_new _ _
      have z0 := cells_at hr3 0
      have z1 := cells_at hr3 1
      have z2 := cells_at hr3 2
      simp only [List.getElem?_toArray, List.getElem?_cons_zero, List.getElem?_cons_succ] at z0 z1 z2
      have HK3 := hidp (K1.trans (hW3 ▸ (Keeps.refl (fun _ => False) W1).alloc _) : Keeps (fun _ => False) w W3)
      have HZ0 := hidp z0
      clear hsl' htn K1 hr3
      go_upto_region 4 with (fail)
      rw [← hW3]
      simp only [← hrb]
      clear hW3 hrb
      by_cases hmany : 512 < n
      · have t3 : decide (512 < n) = true := by simpa using hmany
        have t3' : decide ((512 : Int) < n) = true := by simp; omega
        have HE := hidp (show bodyN bs = none by rw [HTK.out]; exact if_pos hmany)
        clear hmany
        go_wp2
        go_ret2
        exact rr_bad (ok_nobody HE.out) HK3.out
      · have t3 : decide (512 < n) = false := by simpa using hmany
        have t3' : decide ((512 : Int) < n) = false := by simp; omega
        have HE := hidp (show bodyN bs = goN n (t.drop k) (0, 0, 0) by rw [HTK.out]; exact if_neg hmany)
        have hn512 : n ≤ 512 := by omega
        clear hmany HTK
        have hlen1 : bs.length = t.length + 1 := by rw [HC.out]; rfl
        have hd : bs.drop (1 + k) = t.drop k := by rw [HC.out, Nat.add_comm]; rfl
        have hge : goN n (t.drop k) (0, 0, 0) = goN n (bs.drop (1 + k)) (0, 0, 0) := by rw [hd]
        obtain ⟨G, hG⟩ : ∃ G, G = goN n (t.drop k) (0, 0, 0) := ⟨_, rfl⟩
        rw [← hG] at HE hge
        have HGG := hidp hge
        have hat : 1 + k ≤ bs.length := by omega
        have hw1k : IntKind.i64.wrap (1 + (k : Int)) = ((1 + k : Nat) : Int) := by rw [IntWalk.i64_in _ (by omega)]; omega
        clear hd hlen1 hge hG
        obtain ⟨lb, hlb⟩ : ∃ lb, lb = W3.heap.size := ⟨_, rfl⟩
        obtain ⟨W4, hW4⟩ : ∃ W4, W4 = W3.alloc (.cells #[.int .i64 0, .int .i64 0, .int .i64 0] 3) := ⟨_, rfl⟩
        have S0 : RS 3 W3 W4 lb (0, 0, 0) [] (.slice none 0 0) :=
          ⟨hW4 ▸ (Keeps.refl _ _).alloc _, World.ownsRow_nil W4 W3.heap.size 53 3, by rw [hlb, hW4]; exact heap_alloc_new _ _, by omega, by simp [Value.ownBlock]⟩
        have HS0 := hidp S0
        clear S0
        go_upto_region 9 with (fail)
        rw [← hW4]
        simp only [← hlb]
        clear hW4 hlb hw1k z0 z1 z2
        go_wp2
        go_loopw [5, 6, 8] (fun v0 v i wr => ∃ (K : Nat) (X : List P3) (l : P3) (at_ : Nat), K ≤ n ∧ i = .int .u64 K ∧ RS 3 W3 wr lb l X v ∧ X.length = K ∧ G = (goN (n - K) (bs.drop at_) l).map (X ++ ·) ∧ v0 = .int .i64 (at_ : Int) ∧ at_ ≤ bs.length ∧ bnd l (3 * K)) (fun _ _ i _ => n - (intOf i).toNat)
        case atStart => exact ⟨0, [], (0, 0, 0), 1 + k, Nat.zero_le _, rfl, HS0.out, rfl, by rw [HGG.out]; simp, rfl, hat, by simp [bnd]⟩
        case round =>
          obtain ⟨K, X, l, at_, hK, rfl, S, hX, hgo, rfl, hrl, hbn⟩ := hrel
          clear HS0 hat
          obtain ⟨x1, x2, hve, hvz⟩ := slice_of S.row
          rw [hX] at hve
          subst hve
          have HG := hidp (And.intro hX hgo)
          have HS := hidp S
          have HR := hidp hbn
          have z0 : wr.cell? ⟨rb, 0, none⟩ = some (.int .u64 n) := S.keeps.cell HZ0.out (by simp)
          clear hX hgo S hbn
          by_cases hlt : K < n
          · have t4 : decide (K < n) = true := by simpa using hlt
            have t4' : decide ((K : Int) < n) = true := by simp; omega
            have hwK : IntKind.u64.wrap ((K : Int) + 1) = (K : Int) + 1 := by rw [IntKind.wrap_u64]; omega
            have hgo0 : G = (tailF (fun bs l => (goN (n - K - 1) bs l).map (l :: ·)) 0 (bs.drop at_) l).map (X ++ ·) := by
              rw [HG.out.2]
              obtain ⟨d, hd⟩ : ∃ d, n - K = d + 1 := ⟨n - K - 1, by omega⟩
              rw [hd]
              rfl
            have HG0 := hidp hgo0
            clear hgo0
            go_wp2
            clear z0
            go_loopw [5, 9] (fun v0 j wq => ∃ (m : Nat) (l' : P3) (at' : Nat), m ≤ 3 ∧ j = .int .i64 m ∧ RS 3 W3 wq lb l' X (.slice x1 K x2) ∧ G = (tailF (fun bs l => (goN (n - K - 1) bs l).map (l :: ·)) m (bs.drop at') l').map (X ++ ·) ∧ v0 = .int .i64 (at' : Int) ∧ at' ≤ bs.length ∧ bnd l' (3 * K + m)) (fun _ j _ => 3 - (intOf j).toNat)
            case atStart => exact ⟨0, l, at_, by omega, rfl, HS.out, HG0.out, rfl, hrl, HR.out⟩
            case round =>
              obtain ⟨m, l', at', hm, rfl, S', hgo', rfl, hrl', hbn'⟩ := hrel
              have HG' := hidp hgo'
              have HS' := hidp S'
              have HR' := hidp hbn'
              obtain ⟨so3, hsl, hb3⟩ := run_cut HB.out cap at' hrl' hcap
              have CT0 := reftake_walk wr so3 (cap - at') (bs.drop at') (hb3 wr ((HB.out.keep HK3.out).keep S'.keeps))
              rw [List.length_drop] at CT0
              have CT := hidp CT0
              have hsl' := hsl wr
              clear hgo' S' hbn' HS HR hrl HG0 hb3 hsl CT0
              obtain rfl | rfl | rfl | rfl : m = 0 ∨ m = 1 ∨ m = 2 ∨ m = 3 := by omega
              · obtain ⟨tn, htn⟩ : ∃ tn, tn = takeN (bs.drop at') := ⟨_, rfl⟩
                have HT := hidp htn
                rw [← htn] at CT
                clear htn
                go_wp2_with fail
                refine CT.out.mono ?_
                rintro e W5 ⟨rfl, K5⟩
                clear CT
                cases tn with
                | none =>
                  have hbad : bodyN bs = none := by
                    rw [HE.out, HG'.out, tailF_step _ 0 (by omega), step1, ← HT.out]; rfl
                  have HBD := hidp (ok_nobody hbad)
                  simp only [takeR]
                  obtain ⟨yb, hyb⟩ : ∃ yb, yb = W5.heap.size := ⟨_, rfl⟩
                  obtain ⟨W6, hW6⟩ : ∃ W6, W6 = W5.alloc (.cells #[.int .u64 0, .int .i64 0, .bool false] 28) := ⟨_, rfl⟩
                  have hr6 : W6.heap[yb]? = some (.cells #[.int .u64 0, .int .i64 0, .bool false] 28 (0, 0)) := by rw [hW6, hyb]; exact heap_alloc_new _ _
                  have y0 := cells_at hr6 0
                  have y2 := cells_at hr6 2
                  simp only [List.getElem?_toArray, List.getElem?_cons_zero, List.getElem?_cons_succ] at y0 y2
                  have HK6 := hidp ((HK3.out.trans HS'.out.keeps).trans (K5.trans (hW6 ▸ (Keeps.refl (fun _ => False) W5).alloc _)))
                  clear hbad hsl' K5 hr6
                  go_upto_region 16 with (fail)
                  rw [← hW6]
                  simp only [← hyb]
                  clear hW6 hyb
                  go_wp2
                  go_ret2
                  exact rr_bad HBD.out HK6.out
                | some q =>
                  obtain ⟨u, uk⟩ := q
                  obtain ⟨hk1, hk2, hk10, hn64⟩ := takeN_size HT.out.symm
                  simp only [takeR]
                  simp only at hk1 hk2 hk10 hn64
                  rw [List.length_drop] at hk2
                  obtain ⟨yb, hyb⟩ : ∃ yb, yb = W5.heap.size := ⟨_, rfl⟩
                  obtain ⟨W6, hW6⟩ : ∃ W6, W6 = W5.alloc (.cells #[.int .u64 u, .int .i64 uk, .bool true] 28) := ⟨_, rfl⟩
                  have hr6 : W6.heap[yb]? = some (.cells #[.int .u64 u, .int .i64 uk, .bool true] 28 (0, 0)) := by rw [hW6, hyb]; exact heap_alloc_new _ _
                  have y0 := cells_at hr6 0
                  have y1 := cells_at hr6 1
                  have y2 := cells_at hr6 2
                  simp only [List.getElem?_toArray, List.getElem?_cons_zero, List.getElem?_cons_succ] at y0 y1 y2
                  have K6 : Keeps (fun _ => False) wr W6 := K5.trans (hW6 ▸ (Keeps.refl (fun _ => False) W5).alloc _)
                  have S6 := HS'.out.quiet K6
                  have HS6 := hidp S6
                  clear hsl' K5 hr6 K6 S6 HS'
                  go_upto_region 16 with (fail)
                  rw [← hW6]
                  simp only [← hyb]
                  clear hW6 hyb
                  by_cases hbig : 1099511627776 < u
                  · have t5 : decide (1099511627776 < u) = true := by simpa using hbig
                    have t5' : decide ((1099511627776 : Int) < u) = true := by simp; omega
                    have hbad : bodyN bs = none := by
                      rw [HE.out, HG'.out, tailF_step _ 0 (by omega), step1, ← HT.out]
                      simp only [if_pos hbig]; rfl
                    have HBD := hidp (ok_nobody hbad)
                    clear hbad hbig
                    go_wp2
                    go_ret2
                    exact rr_bad HBD.out (HK3.out.trans HS6.out.keeps)
                  · have t5 : decide (1099511627776 < u) = false := by simpa using hbig
                    have t5' : decide ((1099511627776 : Int) < u) = false := by simp; omega
                    have hu : u ≤ 1099511627776 := by omega
                    have hgo2 : G = (tailF (fun bs l => (goN (n - K - 1) bs l).map (l :: ·)) 1 (bs.drop (at' + uk)) (bump l' 0 (whole u))).map (X ++ ·) := by
                      rw [HG'.out, tailF_step _ 0 (by omega), step1, ← HT.out]
                      simp only [if_neg hbig, List.drop_drop]
                    have hwat : IntKind.i64.wrap ((at' : Int) + uk) = ((at' + uk : Nat) : Int) := by rw [IntWalk.i64_in _ (by omega)]; omega
                    have hbn3 := HR'.out.bump 0 (by omega) hu
                    obtain ⟨wu, hwu⟩ : ∃ x, x = whole u := ⟨_, rfl⟩
                    have CW : ∀ W, Calls Try.prog 30 #[.int .u64 u] W fun e w' => e = .returned (.int .i64 wu) ∧ w' = W := fun W => hwu ▸ zag_walk W u hu
                    rw [← hwu] at hbn3 hgo2
                    have S9 := HS6.out.set 0 (by omega) wu _ rfl
                    obtain ⟨lx, ly, lz⟩ := l'
                    have g0 : W6.cell? ⟨lb, 0, none⟩ = some (.int .i64 lx) := by simpa using cells_at HS6.out.box 0
                    have f0 := free_at HS6.out.box 0
                    have hsum : IntKind.i64.wrap (lx + wu) = lx + wu := by
                      apply IntWalk.i64_in
                      unfold bnd at hbn3
                      simp only [bump] at hbn3
                      push_cast at hbn3
                      omega
                    have hrl3 : at' + uk ≤ bs.length := by omega
                    have HF := hidp (And.intro hgo2 (And.intro hbn3 CW))
                    have HF9 := hidp S9
                    clear hbig hgo2 hbn3 CW S9 hwu hk2
                    have HD := hidp (HF9.out.quiet ((Keeps.refl _ _).drew))
                    go_upto_region 19 with (fail)
                    clear hwat y1 y2
                    go_region_with ((first | (refine (HF.out.2.2 _).mono ?_; rintro e W7 ⟨rfl, rfl⟩)))
                    all_goals
                      clear g0 f0 hsum HF9 y0
                      go_wp2
                      exact ⟨⟨1, bump (lx, ly, lz) 0 wu, at' + uk, by omega, rfl, HD.out, HF.out.1, rfl, hrl3, HF.out.2.1⟩, by simp [intOf]⟩
              · obtain ⟨tn, htn⟩ : ∃ tn, tn = takeN (bs.drop at') := ⟨_, rfl⟩
                have HT := hidp htn
                rw [← htn] at CT
                clear htn
                go_wp2_with fail
                refine CT.out.mono ?_
                rintro e W5 ⟨rfl, K5⟩
                clear CT
                cases tn with
                | none =>
                  have hbad : bodyN bs = none := by
                    rw [HE.out, HG'.out, tailF_step _ 1 (by omega), step1, ← HT.out]; rfl
                  have HBD := hidp (ok_nobody hbad)
                  simp only [takeR]
                  obtain ⟨yb, hyb⟩ : ∃ yb, yb = W5.heap.size := ⟨_, rfl⟩
                  obtain ⟨W6, hW6⟩ : ∃ W6, W6 = W5.alloc (.cells #[.int .u64 0, .int .i64 0, .bool false] 28) := ⟨_, rfl⟩
                  have hr6 : W6.heap[yb]? = some (.cells #[.int .u64 0, .int .i64 0, .bool false] 28 (0, 0)) := by rw [hW6, hyb]; exact heap_alloc_new _ _
                  have y0 := cells_at hr6 0
                  have y2 := cells_at hr6 2
                  simp only [List.getElem?_toArray, List.getElem?_cons_zero, List.getElem?_cons_succ] at y0 y2
                  have HK6 := hidp ((HK3.out.trans HS'.out.keeps).trans (K5.trans (hW6 ▸ (Keeps.refl (fun _ => False) W5).alloc _)))
                  clear hbad hsl' K5 hr6
                  go_upto_region 16 with (fail)
                  rw [← hW6]
                  simp only [← hyb]
                  clear hW6 hyb
                  go_wp2
                  go_ret2
                  exact rr_bad HBD.out HK6.out
                | some q =>
                  obtain ⟨u, uk⟩ := q
                  obtain ⟨hk1, hk2, hk10, hn64⟩ := takeN_size HT.out.symm
                  simp only [takeR]
                  simp only at hk1 hk2 hk10 hn64
                  rw [List.length_drop] at hk2
                  obtain ⟨yb, hyb⟩ : ∃ yb, yb = W5.heap.size := ⟨_, rfl⟩
                  obtain ⟨W6, hW6⟩ : ∃ W6, W6 = W5.alloc (.cells #[.int .u64 u, .int .i64 uk, .bool true] 28) := ⟨_, rfl⟩
                  have hr6 : W6.heap[yb]? = some (.cells #[.int .u64 u, .int .i64 uk, .bool true] 28 (0, 0)) := by rw [hW6, hyb]; exact heap_alloc_new _ _
                  have y0 := cells_at hr6 0
                  have y1 := cells_at hr6 1
                  have y2 := cells_at hr6 2
                  simp only [List.getElem?_toArray, List.getElem?_cons_zero, List.getElem?_cons_succ] at y0 y1 y2
                  have K6 : Keeps (fun _ => False) wr W6 := K5.trans (hW6 ▸ (Keeps.refl (fun _ => False) W5).alloc _)
                  have S6 := HS'.out.quiet K6
                  have HS6 := hidp S6
                  clear hsl' K5 hr6 K6 S6 HS'
                  go_upto_region 16 with (fail)
                  rw [← hW6]
                  simp only [← hyb]
                  clear hW6 hyb
                  by_cases hbig : 1099511627776 < u
                  · have t5 : decide (1099511627776 < u) = true := by simpa using hbig
                    have t5' : decide ((1099511627776 : Int) < u) = true := by simp; omega
                    have hbad : bodyN bs = none := by
                      rw [HE.out, HG'.out, tailF_step _ 1 (by omega), step1, ← HT.out]
                      simp only [if_pos hbig]; rfl
                    have HBD := hidp (ok_nobody hbad)
                    clear hbad hbig
                    go_wp2
                    go_ret2
                    exact rr_bad HBD.out (HK3.out.trans HS6.out.keeps)
                  · have t5 : decide (1099511627776 < u) = false := by simpa using hbig
                    have t5' : decide ((1099511627776 : Int) < u) = false := by simp; omega
                    have hu : u ≤ 1099511627776 := by omega
                    have hgo2 : G = (tailF (fun bs l => (goN (n - K - 1) bs l).map (l :: ·)) 2 (bs.drop (at' + uk)) (bump l' 1 (whole u))).map (X ++ ·) := by
                      rw [HG'.out, tailF_step _ 1 (by omega), step1, ← HT.out]
                      simp only [if_neg hbig, List.drop_drop]
                    have hwat : IntKind.i64.wrap ((at' : Int) + uk) = ((at' + uk : Nat) : Int) := by rw [IntWalk.i64_in _ (by omega)]; omega
                    have hbn3 := HR'.out.bump 1 (by omega) hu
                    obtain ⟨wu, hwu⟩ : ∃ x, x = whole u := ⟨_, rfl⟩
                    have CW : ∀ W, Calls Try.prog 30 #[.int .u64 u] W fun e w' => e = .returned (.int .i64 wu) ∧ w' = W := fun W => hwu ▸ zag_walk W u hu
                    rw [← hwu] at hbn3 hgo2
                    have S9 := HS6.out.set 1 (by omega) wu _ rfl
                    obtain ⟨lx, ly, lz⟩ := l'
                    have g0 : W6.cell? ⟨lb, 1, none⟩ = some (.int .i64 ly) := by simpa using cells_at HS6.out.box 1
                    have f0 := free_at HS6.out.box 1
                    have hsum : IntKind.i64.wrap (ly + wu) = ly + wu := by
                      apply IntWalk.i64_in
                      unfold bnd at hbn3
                      simp only [bump] at hbn3
                      push_cast at hbn3
                      omega
                    have hrl3 : at' + uk ≤ bs.length := by omega
                    have HF := hidp (And.intro hgo2 (And.intro hbn3 CW))
                    have HF9 := hidp S9
                    clear hbig hgo2 hbn3 CW S9 hwu hk2
                    have HD := hidp (HF9.out.quiet ((Keeps.refl _ _).drew))
                    go_upto_region 19 with (fail)
                    clear hwat y1 y2
                    go_region_with ((first | (refine (HF.out.2.2 _).mono ?_; rintro e W7 ⟨rfl, rfl⟩)))
                    all_goals
                      clear g0 f0 hsum HF9 y0
                      go_wp2
                      exact ⟨⟨2, bump (lx, ly, lz) 1 wu, at' + uk, by omega, rfl, HD.out, HF.out.1, rfl, hrl3, HF.out.2.1⟩, by simp [intOf]⟩
              · obtain ⟨tn, htn⟩ : ∃ tn, tn = takeN (bs.drop at') := ⟨_, rfl⟩
                have HT := hidp htn
                rw [← htn] at CT
                clear htn
                go_wp2_with fail
                refine CT.out.mono ?_
                rintro e W5 ⟨rfl, K5⟩
                clear CT
                cases tn with
                | none =>
                  have hbad : bodyN bs = none := by
                    rw [HE.out, HG'.out, tailF_step _ 2 (by omega), step1, ← HT.out]; rfl
                  have HBD := hidp (ok_nobody hbad)
                  simp only [takeR]
                  obtain ⟨yb, hyb⟩ : ∃ yb, yb = W5.heap.size := ⟨_, rfl⟩
                  obtain ⟨W6, hW6⟩ : ∃ W6, W6 = W5.alloc (.cells #[.int .u64 0, .int .i64 0, .bool false] 28) := ⟨_, rfl⟩
                  have hr6 : W6.heap[yb]? = some (.cells #[.int .u64 0, .int .i64 0, .bool false] 28 (0, 0)) := by rw [hW6, hyb]; exact heap_alloc_new _ _
                  have y0 := cells_at hr6 0
                  have y2 := cells_at hr6 2
                  simp only [List.getElem?_toArray, List.getElem?_cons_zero, List.getElem?_cons_succ] at y0 y2
                  have HK6 := hidp ((HK3.out.trans HS'.out.keeps).trans (K5.trans (hW6 ▸ (Keeps.refl (fun _ => False) W5).alloc _)))
                  clear hbad hsl' K5 hr6
                  go_upto_region 16 with (fail)
                  rw [← hW6]
                  simp only [← hyb]
                  clear hW6 hyb
                  go_wp2
                  go_ret2
                  exact rr_bad HBD.out HK6.out
                | some q =>
                  obtain ⟨u, uk⟩ := q
                  obtain ⟨hk1, hk2, hk10, hn64⟩ := takeN_size HT.out.symm
                  simp only [takeR]
                  simp only at hk1 hk2 hk10 hn64
                  rw [List.length_drop] at hk2
                  obtain ⟨yb, hyb⟩ : ∃ yb, yb = W5.heap.size := ⟨_, rfl⟩
                  obtain ⟨W6, hW6⟩ : ∃ W6, W6 = W5.alloc (.cells #[.int .u64 u, .int .i64 uk, .bool true] 28) := ⟨_, rfl⟩
                  have hr6 : W6.heap[yb]? = some (.cells #[.int .u64 u, .int .i64 uk, .bool true] 28 (0, 0)) := by rw [hW6, hyb]; exact heap_alloc_new _ _
                  have y0 := cells_at hr6 0
                  have y1 := cells_at hr6 1
                  have y2 := cells_at hr6 2
                  simp only [List.getElem?_toArray, List.getElem?_cons_zero, List.getElem?_cons_succ] at y0 y1 y2
                  have K6 : Keeps (fun _ => False) wr W6 := K5.trans (hW6 ▸ (Keeps.refl (fun _ => False) W5).alloc _)
                  have S6 := HS'.out.quiet K6
                  have HS6 := hidp S6
                  clear hsl' K5 hr6 K6 S6 HS'
                  go_upto_region 16 with (fail)
                  rw [← hW6]
                  simp only [← hyb]
                  clear hW6 hyb
                  by_cases hbig : 1099511627776 < u
                  · have t5 : decide (1099511627776 < u) = true := by simpa using hbig
                    have t5' : decide ((1099511627776 : Int) < u) = true := by simp; omega
                    have hbad : bodyN bs = none := by
                      rw [HE.out, HG'.out, tailF_step _ 2 (by omega), step1, ← HT.out]
                      simp only [if_pos hbig]; rfl
                    have HBD := hidp (ok_nobody hbad)
                    clear hbad hbig
                    go_wp2
                    go_ret2
                    exact rr_bad HBD.out (HK3.out.trans HS6.out.keeps)
                  · have t5 : decide (1099511627776 < u) = false := by simpa using hbig
                    have t5' : decide ((1099511627776 : Int) < u) = false := by simp; omega
                    have hu : u ≤ 1099511627776 := by omega
                    have hgo2 : G = (tailF (fun bs l => (goN (n - K - 1) bs l).map (l :: ·)) 3 (bs.drop (at' + uk)) (bump l' 2 (whole u))).map (X ++ ·) := by
                      rw [HG'.out, tailF_step _ 2 (by omega), step1, ← HT.out]
                      simp only [if_neg hbig, List.drop_drop]
                    have hwat : IntKind.i64.wrap ((at' : Int) + uk) = ((at' + uk : Nat) : Int) := by rw [IntWalk.i64_in _ (by omega)]; omega
                    have hbn3 := HR'.out.bump 2 (by omega) hu
                    obtain ⟨wu, hwu⟩ : ∃ x, x = whole u := ⟨_, rfl⟩
                    have CW : ∀ W, Calls Try.prog 30 #[.int .u64 u] W fun e w' => e = .returned (.int .i64 wu) ∧ w' = W := fun W => hwu ▸ zag_walk W u hu
                    rw [← hwu] at hbn3 hgo2
                    have S9 := HS6.out.set 2 (by omega) wu _ rfl
                    obtain ⟨lx, ly, lz⟩ := l'
                    have g0 : W6.cell? ⟨lb, 2, none⟩ = some (.int .i64 lz) := by simpa using cells_at HS6.out.box 2
                    have f0 := free_at HS6.out.box 2
                    have hsum : IntKind.i64.wrap (lz + wu) = lz + wu := by
                      apply IntWalk.i64_in
                      unfold bnd at hbn3
                      simp only [bump] at hbn3
                      push_cast at hbn3
                      omega
                    have hrl3 : at' + uk ≤ bs.length := by omega
                    have HF := hidp (And.intro hgo2 (And.intro hbn3 CW))
                    have HF9 := hidp S9
                    clear hbig hgo2 hbn3 CW S9 hwu hk2
                    have HD := hidp (HF9.out.quiet ((Keeps.refl _ _).drew))
                    go_upto_region 19 with (fail)
                    clear hwat y1 y2
                    go_region_with ((first | (refine (HF.out.2.2 _).mono ?_; rintro e W7 ⟨rfl, rfl⟩)))
                    all_goals
                      clear g0 f0 hsum HF9 y0
                      go_wp2
                      exact ⟨⟨3, bump (lx, ly, lz) 2 wu, at' + uk, by omega, rfl, HD.out, HF.out.1, rfl, hrl3, HF.out.2.1⟩, by simp [intOf]⟩
              · have g0 := cells_at HS'.out.box 0
                have g1 := cells_at HS'.out.box 1
                have g2 := cells_at HS'.out.box 2
                simp only [List.getElem?_toArray, List.getElem?_cons_zero, List.getElem?_cons_succ] at g0 g1 g2
                obtain ⟨lx, ly, lz⟩ := l'
                simp only at g0 g1 g2
                clear CT hsl'
                have S7 : RS 3 W3 wr.drew lb (lx, ly, lz) X (.slice x1 K x2) := HS'.out.quiet ((Keeps.refl _ _).drew)
                have S8 := S7.quiet (W' := wr.drew.alloc (.cells #[.int .i64 lx, .int .i64 ly, .int .i64 lz] 53)) ((Keeps.refl _ _).alloc _)
                have hn8 := cell_three_new wr.drew (.int .i64 lx) (.int .i64 ly) (.int .i64 lz) 53
                have HG8 := hidp (show (wr.drew.alloc (.cells #[.int .i64 lx, .int .i64 ly, .int .i64 lz] 53)).cell? ⟨lb, 0, none⟩ = some (.int .i64 lx) ∧ (wr.drew.alloc (.cells #[.int .i64 lx, .int .i64 ly, .int .i64 lz] 53)).cell? ⟨lb, 1, none⟩ = some (.int .i64 ly) ∧ (wr.drew.alloc (.cells #[.int .i64 lx, .int .i64 ly, .int .i64 lz] 53)).cell? ⟨lb, 2, none⟩ = some (.int .i64 lz) from ⟨by simpa using cells_at S8.box 0, by simpa using cells_at S8.box 1, by simpa using cells_at S8.box 2⟩)
                have HNE := hidp S8.ne
                have HS8 := hidp (And.intro S8 hn8)
                have HZ8 := hidp S8.keeps.size
                have hrow8 : (wr.drew.alloc (.cells #[.int .i64 lx, .int .i64 ly, .int .i64 lz] 53)).ownsRow W3.heap.size 53 3 (.slice x1 K x2) K (pcs X) := by have := S8.row; rw [HG.out.1] at this; exact this
                have HR8 := hidp hrow8
                clear S7 S8 hn8 hrow8
                go_upto_region 20 with (fail)
                go_region_held3 (fun W => W.cell? ⟨lb, 0, none⟩ = some (.int .i64 lx) ∧ W.cell? ⟨lb, 1, none⟩ = some (.int .i64 ly) ∧ W.cell? ⟨lb, 2, none⟩ = some (.int .i64 lz)) (first | exact ⟨g0, g1, g2⟩ | exact HG8.out | exact HJ.out) ((first
                  | (refine step_append_at rfl (.tmp 74) (.tmp 85) 35 (by rfl) W3.heap.size 53 i0 (.agg #[.int .i64 0, .int .i64 0, .int .i64 0]) 3 24 Try.underlying35 hi hz0 hz1 hz2 rfl (by decide) (.slice x1 K x2) K (pcs X) (by rfl) HR8.out ⟨wr.drew.heap.size, 0, none⟩ 1 1 [.int .i64 lx, .int .i64 ly, .int .i64 lz] (by rfl) rfl HS8.out.2 (by intro u hu; simp at hu; rcases hu with rfl | rfl | rfl <;> rfl) (by unfold maxLen; omega) (by omega) HZ8.out ?_; intro v' W9 hown9 hgr9 hnil9 hloc9; have HJ := hidp (And.intro (grown_cell hgr9 HG8.out.1 HNE.out) (And.intro (grown_cell hgr9 HG8.out.2.1 HNE.out) (grown_cell hgr9 HG8.out.2.2 HNE.out))))))
                have hX := HG.out.1
                have S9 := RS.push HS8.out.1 (lx, ly, lz) (by rw [hX]; exact hown9) hgr9 hloc9
                have HF := hidp (And.intro S9 hX)
                clear hown9 hgr9 hnil9 hloc9 hX S9 HS8 HZ8 HR8 HJ HG8 g0 g1 g2
                have hgn : G = (goN (n - (K + 1)) (bs.drop at') (lx, ly, lz)).map ((X ++ [(lx, ly, lz)]) ++ ·) := by
                  rw [HG'.out]
                  show Option.map _ (Option.map _ (goN (n - K - 1) (bs.drop at') (lx, ly, lz))) = _
                  rw [Option.map_map, Nat.sub_sub]
                  congr 1
                  funext y
                  simp
                have HGN := hidp hgn
                clear hgn
                go_wp2
                refine ⟨⟨K + 1, X ++ [(lx, ly, lz)], (lx, ly, lz), at', by omega, by simp, HF.out.1, by rw [List.length_append, HF.out.2]; rfl, HGN.out, rfl, hrl', HR'.out⟩, by simp [intOf]; omega⟩
          · obtain rfl : K = n := by omega
            have t4 : decide (K < K) = false := by simp
            have t4' : decide ((K : Int) < K) = false := by simp
            have hgoK : bodyN bs = some X := by
              rw [HE.out, HG.out.2, Nat.sub_self]
              simp [goN]
            have hpt : PT wr x1 X := pt_own (by have := HS.out.row; rw [HG.out.1] at this; rw [HG.out.1]; exact this) (by rw [HG.out.1]; omega)
            have CW0 := refwrite_walk wr x1 x2 X hpt
            rw [HG.out.1] at CW0
            have CW := hidp CW0
            have HP := hidp (And.intro hpt (HK3.out.trans HS.out.keeps))
            have HO := hidp hgoK
            clear hgoK hpt CW0
            go_wp2_with fail
            refine CW.out.mono ?_
            rintro e W5 ⟨⟨oa, oc, rfl, hbw, hwl, -⟩, K5⟩
            have hh1 := run_toS hbw oc
            have hh2 := run_toS ((HB.out.keep HP.out.2).keep K5) cap
            have HKK := hidp (HP.out.2.trans K5)
            have HPP := hidp (HP.out.1.keep K5)
            have HI := hidp (toS_inj hbw.2.1 HB.out.2.1)
            by_cases hc : chk X = 0
            · rw [hc]
              have HCC := hidp hc
              by_cases heq : writeV X = bs
              · have hok : okN bs = some X := by unfold okN; rw [HO.out]; exact if_pos ⟨HCC.out, heq⟩
                have HOK := hidp (show okL bs = X by unfold okL; rw [hok]; rfl)
                have HOI := hidp hok
                obtain ⟨p, hp⟩ : ∃ p, p = toS (writeV X) := ⟨_, rfl⟩
                obtain ⟨r, hr⟩ : ∃ r, r = toS bs := ⟨_, rfl⟩
                rw [← hp] at hh1
                rw [← hr] at hh2
                have t9 : (p.toList == r.toList) = true := by
                  rw [hp, hr, heq]; simp
                obtain ⟨wl, hwl'⟩ : ∃ x, x = (writeV X).length := ⟨_, rfl⟩
                rw [← hwl'] at hh1 ⊢
                clear heq hok hp hr hbw hwl K5 hc hwl' CW
                go_wp2
                go_ret2
                refine ⟨⟨x1, x2, ?_, ?_, ?_⟩, HKK.out⟩
                · rw [HOK.out, HOI.out, HG.out.1]; rfl
                · rw [HOK.out]; exact HPP.out
                · rw [HOK.out, HG.out.1]; exact hn512
              · have hok : okN bs = none := by unfold okN; rw [HO.out]; exact if_neg (fun h => heq h.2)
                have HOK := hidp hok
                obtain ⟨p, hp⟩ : ∃ p, p = toS (writeV X) := ⟨_, rfl⟩
                obtain ⟨r, hr⟩ : ∃ r, r = toS bs := ⟨_, rfl⟩
                have t9 : (p.toList == r.toList) = false := by
                  rw [hp, hr, beq_eq_false_iff_ne]; exact fun e => heq (HI.out.1 e)
                rw [← hp] at hh1
                rw [← hr] at hh2
                obtain ⟨wl, hwl'⟩ : ∃ x, x = (writeV X).length := ⟨_, rfl⟩
                rw [← hwl'] at hh1 ⊢
                clear heq hok hp hr hbw hwl K5 hc hwl' CW
                go_wp2
                go_ret2
                exact rr_bad HOK.out HKK.out
            · have hok : okN bs = none := by unfold okN; rw [HO.out]; exact if_neg (fun h => hc h.1)
              have HOK := hidp hok
              have t9 : (chk X != 0) = true := by simpa using hc
              clear hok hbw hwl K5 hc CW hh1 hh2
              go_wp2
              go_ret2
              exact rr_bad HOK.out HKK.out
  · have t2 : ((c : Int) != 67) = true := by simp; omega
    have HE := hidp (ok_nobody (show bodyN bs = none by rw [HC.out]; exact if_neg hc67))
    clear hc67 ht
    go_wp2
    go_ret2
    exact rr_bad HE.out (Keeps.refl _ _)
end Go.Proofs.Ytgebjmcdebdbmaa
