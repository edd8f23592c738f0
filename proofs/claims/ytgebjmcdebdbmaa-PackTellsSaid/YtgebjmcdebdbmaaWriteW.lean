/- Write, the program's: the walk. -/
import Derived.Test.YtgebjmcdebdbmaaWriteS
import Derived.Deep.Cut
namespace Go.Proofs.Ytgebjmcdebdbmaa
open Go.RowKit Go.Pairs

theorem pv_ok {ps : List (Int × Int × Int)} (h : ps.all okp = true) : ∀ k, k ≤ ps.length → okp (pv ps k) = true
  | 0, _ => by show okp (0, 0, 0) = true; decide
  | k + 1, hk => by
    have hk' : k < ps.length := by omega
    show okp (ps.getD k (0, 0, 0)) = true
    rw [List.getD_eq_getElem?_getD, List.getElem?_eq_getElem hk']
    exact List.all_eq_true.1 h _ (List.getElem_mem hk')
theorem okp_yes {x y z : Int} (h : okp (x, y, z) = true) : (-1073741824 ≤ x ∧ x ≤ 1073741824) ∧ (-1073741824 ≤ y ∧ y ≤ 1073741824) ∧ (-1073741824 ≤ z ∧ z ≤ 1073741824) := by
  have h' : (okc x && okc y && okc z) = true := h
  simp only [Bool.and_eq_true] at h'
  exact ⟨okc_yes h'.1.1, okc_yes h'.1.2, okc_yes h'.2⟩
/-- what of a point is written after m numbers. -/
def prem (ps : List (Int × Int × Int)) (k : Nat) : Nat → List Nat
  | 0 => []
  | 1 => stx ps k
  | 2 => stx ps k ++ sty ps k
  | _ => stx ps k ++ sty ps k ++ stz ps k

theorem sumN_lt {bs : List Nat} (h : ∀ x ∈ bs, x < 256) : sumN bs < 4294967296 := xor_lt (by omega) (crc_lt (by omega) bs h)
theorem cell_four_new (w : World) (x y z u : Value) (t : TypeId) : ∀ j q, [x, y, z, u][j]? = some q → (w.alloc (.cells #[x, y, z, u] t)).cell? ((⟨w.heap.size, 0, none⟩ : Addr).add j) = some q := by
  intro j q hj
  match j, hj with
  | 0, hj => simp at hj; subst hj; simp [Addr.add]
  | 1, hj => simp at hj; subst hj; exact cells_at (heap_alloc_new w _) 1
  | 2, hj => simp at hj; subst hj; exact cells_at (heap_alloc_new w _) 2
  | 3, hj => simp at hj; subst hj; exact cells_at (heap_alloc_new w _) 3
theorem four_byts (s : Nat) (hs : s < 4294967296) : [Value.int .u8 ((s : Int) % 256), .int .u8 ((s : Int) / 256 % 256), .int .u8 ((s : Int) / 65536 % 256), .int .u8 ((s : Int) / 16777216)] = byts (fourN s) := by
  have h : (s : Int) / 16777216 = ((s / 16777216 % 256 : Nat) : Int) := by omega
  simp only [byts, fourN, List.map_cons, List.map_nil, h]
  simp
theorem four_lt (s : Nat) : ∀ x ∈ fourN s, x < 256 := by
  intro x hx
  simp only [fourN, List.mem_cons, List.not_mem_nil, or_false] at hx
  omega
theorem writeN_lt (ps : List (Int × Int × Int)) : ∀ x ∈ writeN ps, x < 256 := by
  intro x hx
  rcases List.mem_append.1 hx with hx | hx
  · exact front_lt ps _ x hx
  · exact four_lt _ x hx

def writeV (ps : List (Int × Int × Int)) : List Nat := if chk ps = 0 then writeN ps else []

set_option maxRecDepth 100000 in
set_option maxHeartbeats 4000000 in
theorem write_walk (w : World) (so : Option Addr) (cap : Nat) (ps : List (Int × Int × Int)) (h : PT w so ps) :
    Calls Try.prog 16 #[.slice so ps.length cap] w fun e w' => (∃ oa oc, e = .returned (.tuple #[.slice oa (writeV ps).length oc, .int .i64 (chk ps)]) ∧ BS w' oa (writeV ps) ∧ (writeV ps).length ≤ 1000000 ∧ (∀ k, some k = (Value.slice oa (writeV ps).length oc).ownBlock → w.heap.size ≤ k) ∧ (writeV ps).length ≤ oc) ∧ Keeps (fun _ => False) w w' := by
  obtain ⟨i0, hi, hz0, hz1, hz2⟩ := info_parts info5
  have HB := hidp h
  have hl := h.2
  have HC := hidp (check_walk w so cap ps h)
  clear h
  go_enter Try.func16, Try.ntmps16
  go_wp2_with fail
  refine HC.out.mono ?_
  rintro e W1 ⟨⟨ci, rfl⟩, K1⟩
  by_cases hc : chk ps = 0
  · have hv : writeV ps = writeN ps := if_pos hc
    have hlen : ps.length ≤ 512 := by
      by_cases h5 : 512 < ps.length
      · rw [chk_many h5] at hc; omega
      · omega
    have hall : ps.all okp = true := by
      cases ha : ps.all okp with
      | true => rfl
      | false =>
        have : chk ps = 20 := by simp [chk, show ¬ 512 < ps.length by omega, ha]
        rw [this] at hc; omega
    rw [hc]
    have HV := hidp (And.intro hv hc)
    have HA := hidp hall
    have hcv : IntKind.u64.wrap (ps.length : Int) = ps.length := by rw [IntKind.wrap_u64]; omega
    have HK1 := hidp K1
    clear hv hc hall K1 HC
    -- the first byte and the number
    have KL : Keeps (fun _ => False) W1 (W1.alloc (.cells #[.int .u8 67] 5)) := (Keeps.refl _ _).alloc _
    have hlit : (W1.alloc (.cells #[.int .u8 67] 5)).ownsRow w.heap.size 5 1 (.slice (some ⟨W1.heap.size, 0, none⟩) 1 1) 1 (byts [67]) := World.ownsRow_lit W1 #[.int .u8 67] 1 HK1.out.size (by unfold maxLen; omega) rfl
    have HL := hidp (And.intro KL hlit)
    clear KL hlit
    go_wp2_with fail
    refine (uint_walk _ ps.length (by omega)).mono ?_
    rintro e W2 ⟨⟨ua, uc, rfl, hbs, hfr⟩, K2⟩
    have hup := uintN_pos ps.length
    have hul := uintN_len10 (n := ps.length) (by omega)
    obtain ⟨us, hus⟩ : ∃ us, us = uintN ps.length := ⟨_, rfl⟩
    rw [← hus] at hbs hup hul ⊢
    have HU := hidp hus
    obtain ⟨ad, rfl⟩ : ∃ ad, ua = some ad := by
      obtain ⟨b, off, h1, -⟩ := hbs.1 0 (by omega)
      exact ⟨_, h1⟩
    have HR := hidp (keeps_row K2 HL.out.2 (by simp))
    have HKK := hidp ((HK1.out.trans HL.out.1).trans K2)
    have HN := hidp (bs_news hbs)
    clear hus hbs hfr K2
    go_wp2_with (at_builtin; refine wpList_append_own_at _ rfl _ _ 23 rfl w.heap.size 5 i0 (.int .u8 0) 1 1 Try.underlying23 hi hz0 hz1 hz2 rfl (by decide) _ _ _ rfl HR.out ad us.length uc (byts us) rfl ?c1 HN.out (byts_one us) ?c3 ?c4 ?c5 ?_)
    case c1 => rw [byts_len]; omega
    case c3 => unfold maxLen; omega
    case c4 => omega
    case c5 => exact HKK.out.size
    intro v' W3 hown3 hgr3 hnil3 hloc3
    obtain ⟨lb, hlb⟩ : ∃ lb, lb = W3.heap.size := ⟨_, rfl⟩
    obtain ⟨W4, hW4⟩ : ∃ W4, W4 = W3.alloc (.cells #[.int .i64 0, .int .i64 0, .int .i64 0] 53) := ⟨_, rfl⟩
    have S4 : WS w W4 lb (pv ps 0) (front ps 0) v' := by
      have K3 : Keeps (fun _ => False) w W3 := HKK.out.grown hgr3 (fun k e => .inr (own_ge HR.out k e.symm))
      have K4 : Keeps (fun _ => False) W3 W4 := hW4 ▸ (Keeps.refl _ _).alloc _
      have hr3 : W3.ownsRow w.heap.size 5 1 v' (front ps 0).length (byts (front ps 0)) := by
        have e : front ps 0 = [67] ++ us := by rw [HU.out]; simp [front, bodyK]
        rw [e, byts_app, List.length_append]
        exact hown3
      refine ⟨K3.trans K4, keeps_row K4 hr3 (by simp), ?_, hlb ▸ K3.size, fun e => ?_⟩
      · rw [hlb, hW4]; exact heap_alloc_new _ _
      · have := (hr3.lt lb e.symm).2; omega
    have hfl0 : (front ps 0).length ≤ 11 := by
      have e : front ps 0 = [67] ++ us := by rw [HU.out]; simp [front, bodyK]
      rw [e, List.length_append]; simp; omega
    obtain ⟨x1, x2, rfl, -⟩ := slice_of hown3
    have hlen3 : 1 + us.length = (front ps 0).length := by
      have e : front ps 0 = [67] ++ us := by rw [HU.out]; simp [front, bodyK]
      rw [e, List.length_append]; rfl
    rw [hlen3] at S4
    have HS4 := hidp (And.intro S4 hfl0)
    have HL3 := hidp hlen3
    clear hown3 hgr3 hnil3 hloc3 S4 hfl0 HR HKK HN HU HL HK1 hlen3
    go_upto_region 6 with (fail)
    rw [← hW4]
    simp only [← hlb]
    rw [HL3.out]
    clear hW4 hlb
    go_wp2
    go_loopw [6, 28] (fun v i wr => ∃ k : Nat, k ≤ ps.length ∧ i = .int .i64 k ∧ WS w wr lb (pv ps k) (front ps k) v ∧ (front ps k).length ≤ 11 + 30 * k) (fun _ i _ => ps.length - (intOf i).toNat)
    case atStart => exact ⟨0, Nat.zero_le _, rfl, HS4.out.1, by have := HS4.out.2; omega⟩
    case round =>
      obtain ⟨k, hk, rfl, S, hfl⟩ := hrel
      clear HS4 HL3
      by_cases hlt : k < ps.length
      · obtain ⟨b, off, rfl, c0, c1, c2⟩ := (HB.out.keep S.keeps).1 k hlt
        have hgd : ps.getD k (0, 0, 0) = ps[k] := by rw [List.getD_eq_getElem?_getD, List.getElem?_eq_getElem hlt]; rfl
        have hokp : okp ps[k] = true := List.all_eq_true.1 HA.out _ (List.getElem_mem hlt)
        have hokl := pv_ok HA.out k hk
        obtain ⟨x, hx⟩ : ∃ x, x = ps[k].1 := ⟨_, rfl⟩
        obtain ⟨y, hy⟩ : ∃ y, y = ps[k].2.1 := ⟨_, rfl⟩
        obtain ⟨z, hz⟩ : ∃ z, z = ps[k].2.2 := ⟨_, rfl⟩
        have hp : ps[k] = (x, y, z) := by rw [hx, hy, hz]
        rw [← hx] at c0
        rw [← hy] at c1
        rw [← hz] at c2
        obtain ⟨⟨lx, ly, lz⟩, hlv⟩ : ∃ l, l = pv ps k := ⟨_, rfl⟩
        rw [← hlv] at S hokl
        rw [hp] at hokp hgd
        obtain ⟨px, py, pz⟩ := okp_yes hokp
        obtain ⟨qx, qy, qz⟩ := okp_yes hokl
        have hpv : pv ps (k + 1) = (x, y, z) := hgd
        obtain ⟨dx, hdx⟩ : ∃ d, d = x - lx := ⟨_, rfl⟩
        obtain ⟨dy, hdy⟩ : ∃ d, d = y - ly := ⟨_, rfl⟩
        obtain ⟨dz, hdz⟩ : ∃ d, d = z - lz := ⟨_, rfl⟩
        have wx : IntKind.i64.wrap (x - lx) = dx := by rw [hdx]; exact IntWalk.i64_in _ (by omega)
        have wy : IntKind.i64.wrap (y - ly) = dy := by rw [hdy]; exact IntWalk.i64_in _ (by omega)
        have wz : IntKind.i64.wrap (z - lz) = dz := by rw [hdz]; exact IntWalk.i64_in _ (by omega)
        have HD := hidp (show (-4000000000 ≤ dx ∧ dx ≤ 4000000000) ∧ (-4000000000 ≤ dy ∧ dy ≤ 4000000000) ∧ (-4000000000 ≤ dz ∧ dz ≤ 4000000000) by omega)
        have HS := hidp (show uintN (zig dx) = stx ps k ∧ uintN (zig dy) = sty ps k ∧ uintN (zig dz) = stz ps k by
          unfold stx sty stz u1
          rw [hgd, ← hlv, hdx, hdy, hdz]
          exact ⟨rfl, rfl, rfl⟩)
        have HPV := hidp hpv
        have t2 : decide (k < ps.length) = true := by simpa using hlt
        have t3 : ((k : Int) < ps.length) := by omega
        have hw : IntKind.i64.wrap ((k : Int) + 1) = k + 1 := IntWalk.i64_in _ (by omega)
        obtain ⟨va, vc, rfl, -⟩ := slice_of S.row
        obtain ⟨pb, hpb⟩ : ∃ pb, pb = wr.heap.size := ⟨_, rfl⟩
        obtain ⟨W5, hW5⟩ : ∃ W5, W5 = wr.alloc (.cells #[.int .i64 x, .int .i64 y, .int .i64 z] 53) := ⟨_, rfl⟩
        have S5 := S.quiet (W' := W5) (hW5 ▸ (Keeps.refl _ _).alloc _)
        have o5 : W5.heap[pb]? = some (.cells #[.int .i64 x, .int .i64 y, .int .i64 z] 53 (0, 0)) := by rw [hW5, hpb]; exact heap_alloc_new _ _
        have hne5 : some pb ≠ (Value.slice va (front ps k).length vc).ownBlock := fun e => by have := (S.row.lt pb e.symm).2; omega
        have e0 := cells_at o5 0
        have e1 := cells_at o5 1
        have e2 := cells_at o5 2
        have g0 := cells_at S5.box 0
        have g1 := cells_at S5.box 1
        have g2 := cells_at S5.box 2
        simp only [List.getElem?_toArray, List.getElem?_cons_zero, List.getElem?_cons_succ] at e0 e1 e2 g0 g1 g2
        have HS5 := hidp (And.intro S5 (And.intro o5 hne5))
        have hkl : k ≤ 512 := by omega
        have HFL0 := hidp hfl
        clear S S5 o5 hne5 hx hy hz hp hlv hgd hokp hokl px py pz qx qy qz hpv hdx hdy hdz hfl
        go_upto_region 9 with (fail)
        rw [← hW5]
        simp only [← hpb]
        clear hW5 hpb c0 c1 c2
        go_wp2
        go_loopw [6, 48] (fun v j wq => ∃ m : Nat, m ≤ 3 ∧ j = .int .i64 m ∧ WS w wq lb (lx, ly, lz) (front ps k ++ prem ps k m) v ∧ wq.heap[pb]? = some (.cells #[.int .i64 x, .int .i64 y, .int .i64 z] 53 (0, 0)) ∧ some pb ≠ v.ownBlock ∧ (prem ps k m).length ≤ 10 * m) (fun _ j _ => 3 - (intOf j).toNat)
        case atStart => exact ⟨0, by omega, rfl, by simpa [prem] using HS5.out.1, HS5.out.2.1, HS5.out.2.2, by simp [prem]⟩
        case round =>
          obtain ⟨m, hm, rfl, S, o, hne, hlm⟩ := hrel
          clear e0 e1 e2 g0 g1 g2 HS5 wx wy wz
          obtain ⟨fl, hfle⟩ : ∃ fl, fl = front ps k ++ prem ps k m := ⟨_, rfl⟩
          rw [← hfle] at S
          have HFL := hidp hfle
          clear hfle
          obtain ⟨va, vc, rfl, -⟩ := slice_of S.row
          have hfl0 := HFL0.out
          have HM := hidp (And.intro S (And.intro o (And.intro hne (show (front ps k).length ≤ 11 + 30 * k ∧ (prem ps k m).length ≤ 10 * m from ⟨hfl0, hlm⟩))))
          clear S o hne hlm hfl0
          rcases (show m = 0 ∨ m = 1 ∨ m = 2 ∨ m = 3 by omega) with rfl | rfl | rfl | rfl
          · have hix := run_ix0 wr dx dy dz
            obtain ⟨hb1, hb2⟩ := HD.out.1
            obtain ⟨zz, hzz⟩ : ∃ zz, zz = zig dx := ⟨_, rfl⟩
            have hz64 : zz < 18446744073709551616 := by rw [hzz]; exact zig_lt (by omega) (by omega)
            have P := part_walk wr dx (by omega) (by omega)
            rw [← hzz] at P
            have HP := hidp P
            have HZ := hidp hzz
            clear P hzz
            go_wp2_with fail
            refine HP.out.mono ?_
            rintro e W5 ⟨rfl, rfl⟩
            go_wp2_with fail
            refine (uint_walk _ zz hz64).mono ?_
            rintro e W6 ⟨⟨ua, uc, rfl, hbs, hfr⟩, K6⟩
            have hup := uintN_pos zz
            have hul := uintN_len10 hz64
            obtain ⟨us, hus⟩ : ∃ us, us = uintN zz := ⟨_, rfl⟩
            rw [← hus] at hbs hup hul ⊢
            have hst : us = stx ps k := by rw [hus, HZ.out]; exact HS.out.1
            obtain ⟨ad, rfl⟩ : ∃ ad, ua = some ad := by
              obtain ⟨b, off, h1, -⟩ := hbs.1 0 (by omega)
              exact ⟨_, h1⟩
            have S6 := HM.out.1.quiet K6
            have o6 := (K6.block pb (Array.getElem?_eq_some_iff.1 HM.out.2.1).1 (by simp)).trans HM.out.2.1
            have HN := hidp (bs_news hbs)
            have hbl : fl.length ≤ 20000 := by
              have h1 := HM.out.2.2.2
              have h2 := congrArg List.length HFL.out
              rw [List.length_append] at h2
              omega
            have HS6 := hidp (And.intro S6 (And.intro o6 hst))
            have hsz6 := HS6.out.1.keeps.size
            clear hus hbs hfr K6 S6 o6 hst hix hb1 hb2 HP
            go_wp2_with (at_builtin; refine wpList_append_own_at _ rfl _ _ 23 rfl w.heap.size 5 i0 (.int .u8 0) 1 1 Try.underlying23 hi hz0 hz1 hz2 rfl (by decide) _ _ _ rfl HS6.out.1.row ad us.length uc (byts us) rfl ?c1 HN.out (byts_one us) ?c3 ?c4 ?c5 ?_)
            case c1 => rw [byts_len]; omega
            case c3 => unfold maxLen; omega
            case c4 => omega
            case c5 => exact hsz6
            intro v' W7 hown7 hgr7 hnil7 hloc7
            have S7 := HS6.out.1.push hown7 hgr7 hloc7
            have o7 := (((Keeps.refl (fun j => some j = (Value.slice va fl.length vc).ownBlock) W6).grown hgr7 (fun k e => .inl e.symm)).block pb (Array.getElem?_eq_some_iff.1 HS6.out.2.1).1 HM.out.2.2.1).trans HS6.out.2.1
            have hne7 : some pb ≠ v'.ownBlock := by
              have hpl := (Array.getElem?_eq_some_iff.1 HS6.out.2.1).1
              rcases hloc7 with e | e
              · rw [e]; exact HM.out.2.2.1
              · rw [e]; simp; omega
            obtain ⟨x1, x2, rfl, -⟩ := slice_of hown7
            have hpre : fl ++ us = front ps k ++ prem ps k 1 := by rw [HFL.out, HS6.out.2.2]; simp [prem]
            have hlp : (prem ps k 1).length ≤ 10 * 1 := by
              have h1 := congrArg List.length hpre
              have h2 := congrArg List.length HFL.out
              have h3 := HM.out.2.2.2
              simp only [List.length_append] at h1 h2
              omega
            rw [hpre] at S7
            have HF := hidp (And.intro S7 (And.intro o7 (And.intro hne7 hlp)))
            clear hown7 hgr7 hnil7 hloc7 S7 o7 hne7 hpre HS6 HFL HM hlp
            go_wp2
            exact ⟨⟨1, by omega, rfl, HF.out⟩, by simp [intOf]⟩
          · have hix := run_ix1 wr dx dy dz
            obtain ⟨hb1, hb2⟩ := HD.out.2.1
            obtain ⟨zz, hzz⟩ : ∃ zz, zz = zig dy := ⟨_, rfl⟩
            have hz64 : zz < 18446744073709551616 := by rw [hzz]; exact zig_lt (by omega) (by omega)
            have P := part_walk wr dy (by omega) (by omega)
            rw [← hzz] at P
            have HP := hidp P
            have HZ := hidp hzz
            clear P hzz
            go_wp2_with fail
            refine HP.out.mono ?_
            rintro e W5 ⟨rfl, rfl⟩
            go_wp2_with fail
            refine (uint_walk _ zz hz64).mono ?_
            rintro e W6 ⟨⟨ua, uc, rfl, hbs, hfr⟩, K6⟩
            have hup := uintN_pos zz
            have hul := uintN_len10 hz64
            obtain ⟨us, hus⟩ : ∃ us, us = uintN zz := ⟨_, rfl⟩
            rw [← hus] at hbs hup hul ⊢
            have hst : us = sty ps k := by rw [hus, HZ.out]; exact HS.out.2.1
            obtain ⟨ad, rfl⟩ : ∃ ad, ua = some ad := by
              obtain ⟨b, off, h1, -⟩ := hbs.1 0 (by omega)
              exact ⟨_, h1⟩
            have S6 := HM.out.1.quiet K6
            have o6 := (K6.block pb (Array.getElem?_eq_some_iff.1 HM.out.2.1).1 (by simp)).trans HM.out.2.1
            have HN := hidp (bs_news hbs)
            have hbl : fl.length ≤ 20000 := by
              have h1 := HM.out.2.2.2
              have h2 := congrArg List.length HFL.out
              rw [List.length_append] at h2
              omega
            have HS6 := hidp (And.intro S6 (And.intro o6 hst))
            have hsz6 := HS6.out.1.keeps.size
            clear hus hbs hfr K6 S6 o6 hst hix hb1 hb2 HP
            go_wp2_with (at_builtin; refine wpList_append_own_at _ rfl _ _ 23 rfl w.heap.size 5 i0 (.int .u8 0) 1 1 Try.underlying23 hi hz0 hz1 hz2 rfl (by decide) _ _ _ rfl HS6.out.1.row ad us.length uc (byts us) rfl ?c1 HN.out (byts_one us) ?c3 ?c4 ?c5 ?_)
            case c1 => rw [byts_len]; omega
            case c3 => unfold maxLen; omega
            case c4 => omega
            case c5 => exact hsz6
            intro v' W7 hown7 hgr7 hnil7 hloc7
            have S7 := HS6.out.1.push hown7 hgr7 hloc7
            have o7 := (((Keeps.refl (fun j => some j = (Value.slice va fl.length vc).ownBlock) W6).grown hgr7 (fun k e => .inl e.symm)).block pb (Array.getElem?_eq_some_iff.1 HS6.out.2.1).1 HM.out.2.2.1).trans HS6.out.2.1
            have hne7 : some pb ≠ v'.ownBlock := by
              have hpl := (Array.getElem?_eq_some_iff.1 HS6.out.2.1).1
              rcases hloc7 with e | e
              · rw [e]; exact HM.out.2.2.1
              · rw [e]; simp; omega
            obtain ⟨x1, x2, rfl, -⟩ := slice_of hown7
            have hpre : fl ++ us = front ps k ++ prem ps k 2 := by rw [HFL.out, HS6.out.2.2]; simp [prem]
            have hlp : (prem ps k 2).length ≤ 10 * 2 := by
              have h1 := congrArg List.length hpre
              have h2 := congrArg List.length HFL.out
              have h3 := HM.out.2.2.2
              simp only [List.length_append] at h1 h2
              omega
            rw [hpre] at S7
            have HF := hidp (And.intro S7 (And.intro o7 (And.intro hne7 hlp)))
            clear hown7 hgr7 hnil7 hloc7 S7 o7 hne7 hpre HS6 HFL HM hlp
            go_wp2
            exact ⟨⟨2, by omega, rfl, HF.out⟩, by simp [intOf]⟩
          · have hix := run_ix2 wr dx dy dz
            obtain ⟨hb1, hb2⟩ := HD.out.2.2
            obtain ⟨zz, hzz⟩ : ∃ zz, zz = zig dz := ⟨_, rfl⟩
            have hz64 : zz < 18446744073709551616 := by rw [hzz]; exact zig_lt (by omega) (by omega)
            have P := part_walk wr dz (by omega) (by omega)
            rw [← hzz] at P
            have HP := hidp P
            have HZ := hidp hzz
            clear P hzz
            go_wp2_with fail
            refine HP.out.mono ?_
            rintro e W5 ⟨rfl, rfl⟩
            go_wp2_with fail
            refine (uint_walk _ zz hz64).mono ?_
            rintro e W6 ⟨⟨ua, uc, rfl, hbs, hfr⟩, K6⟩
            have hup := uintN_pos zz
            have hul := uintN_len10 hz64
            obtain ⟨us, hus⟩ : ∃ us, us = uintN zz := ⟨_, rfl⟩
            rw [← hus] at hbs hup hul ⊢
            have hst : us = stz ps k := by rw [hus, HZ.out]; exact HS.out.2.2
            obtain ⟨ad, rfl⟩ : ∃ ad, ua = some ad := by
              obtain ⟨b, off, h1, -⟩ := hbs.1 0 (by omega)
              exact ⟨_, h1⟩
            have S6 := HM.out.1.quiet K6
            have o6 := (K6.block pb (Array.getElem?_eq_some_iff.1 HM.out.2.1).1 (by simp)).trans HM.out.2.1
            have HN := hidp (bs_news hbs)
            have hbl : fl.length ≤ 20000 := by
              have h1 := HM.out.2.2.2
              have h2 := congrArg List.length HFL.out
              rw [List.length_append] at h2
              omega
            have HS6 := hidp (And.intro S6 (And.intro o6 hst))
            have hsz6 := HS6.out.1.keeps.size
            clear hus hbs hfr K6 S6 o6 hst hix hb1 hb2 HP
            go_wp2_with (at_builtin; refine wpList_append_own_at _ rfl _ _ 23 rfl w.heap.size 5 i0 (.int .u8 0) 1 1 Try.underlying23 hi hz0 hz1 hz2 rfl (by decide) _ _ _ rfl HS6.out.1.row ad us.length uc (byts us) rfl ?c1 HN.out (byts_one us) ?c3 ?c4 ?c5 ?_)
            case c1 => rw [byts_len]; omega
            case c3 => unfold maxLen; omega
            case c4 => omega
            case c5 => exact hsz6
            intro v' W7 hown7 hgr7 hnil7 hloc7
            have S7 := HS6.out.1.push hown7 hgr7 hloc7
            have o7 := (((Keeps.refl (fun j => some j = (Value.slice va fl.length vc).ownBlock) W6).grown hgr7 (fun k e => .inl e.symm)).block pb (Array.getElem?_eq_some_iff.1 HS6.out.2.1).1 HM.out.2.2.1).trans HS6.out.2.1
            have hne7 : some pb ≠ v'.ownBlock := by
              have hpl := (Array.getElem?_eq_some_iff.1 HS6.out.2.1).1
              rcases hloc7 with e | e
              · rw [e]; exact HM.out.2.2.1
              · rw [e]; simp; omega
            obtain ⟨x1, x2, rfl, -⟩ := slice_of hown7
            have hpre : fl ++ us = front ps k ++ prem ps k 3 := by rw [HFL.out, HS6.out.2.2]; simp [prem]
            have hlp : (prem ps k 3).length ≤ 10 * 3 := by
              have h1 := congrArg List.length hpre
              have h2 := congrArg List.length HFL.out
              have h3 := HM.out.2.2.2
              simp only [List.length_append] at h1 h2
              omega
            rw [hpre] at S7
            have HF := hidp (And.intro S7 (And.intro o7 (And.intro hne7 hlp)))
            clear hown7 hgr7 hnil7 hloc7 S7 o7 hne7 hpre HS6 HFL HM hlp
            go_wp2
            exact ⟨⟨3, by omega, rfl, HF.out⟩, by simp [intOf]⟩
          · have hfe : fl = front ps (k + 1) := by rw [HFL.out, front_succ]; simp [prem]
            have hfl3 : (front ps (k + 1)).length ≤ 11 + 30 * (k + 1) := by
              have h1 := HM.out.2.2.2
              have h2 := congrArg List.length HFL.out
              rw [← hfe, h2, List.length_append]
              omega
            have S7 := HM.out.1.last x y z
            rw [hfe] at S7
            have e0 := cells_at HM.out.2.1 0
            have e1 := cells_at HM.out.2.1 1
            have e2 := cells_at HM.out.2.1 2
            have g0 := cells_at HM.out.1.box 0
            have g1 := cells_at HM.out.1.box 1
            have g2 := cells_at HM.out.1.box 2
            have f0 := free_at HM.out.1.box 0
            have f1 := free_at HM.out.1.box 1
            have f2 := free_at HM.out.1.box 2
            simp only [List.getElem?_toArray, List.getElem?_cons_zero, List.getElem?_cons_succ] at e0 e1 e2 g0 g1 g2
            have HF := hidp (And.intro S7 hfl3)
            have HFE := hidp hfe
            clear S7 hfl3 hfe HM
            go_wp2
            refine ⟨⟨k + 1, by omega, rfl, ?_, HF.out.2⟩, by simp [intOf]; omega⟩
            rw [HPV.out, HFE.out]
            exact HF.out.1
      · obtain rfl : k = ps.length := by omega
        have t2 : decide (ps.length < ps.length) = false := by simp
        obtain ⟨fl, hfle⟩ : ∃ fl, fl = front ps ps.length := ⟨_, rfl⟩
        have hfb : ∀ x ∈ fl, x < 256 := by rw [hfle]; exact front_lt ps _
        have hw5 : writeN ps = fl ++ fourN (sumN fl) := by rw [hfle]; rfl
        rw [← hfle] at S hfl
        obtain ⟨va, vc, rfl, -⟩ := slice_of S.row
        have hbs := bs_own S.row hfb (by omega)
        have hs64 := sumN_lt hfb
        have CS := hidp (sum_walk wr va vc fl hbs)
        obtain ⟨sm, hsm⟩ : ∃ sm, sm = sumN fl := ⟨_, rfl⟩
        rw [← hsm] at CS hw5 hs64
        have HSS := hidp (And.intro S (And.intro hfb hw5))
        have hfl2 : fl.length ≤ 20000 := by omega
        clear S hfb hw5 hbs hsm hfle hfl
        go_wp2_with fail
        refine CS.out.mono ?_
        rintro e W5 ⟨rfl, rfl⟩
        go_wp2_with fail
        refine (four_walk _ sm hs64).mono ?_
        rintro e W6 ⟨rfl, hW6⟩
        have S6 := HSS.out.1.quiet (W' := W6) (hW6 ▸ (Keeps.refl _ _).alloc _)
        have hn6 := cell_four_new W5 (.int .u8 ((sm : Int) % 256)) (.int .u8 ((sm : Int) / 256 % 256)) (.int .u8 ((sm : Int) / 65536 % 256)) (.int .u8 ((sm : Int) / 16777216)) 5
        rw [← hW6] at hn6
        have HS6 := hidp (And.intro S6 hn6)
        have hsz6 := S6.keeps.size
        obtain ⟨fb, hfb⟩ : ∃ fb, fb = W5.heap.size := ⟨_, rfl⟩
        rw [← hfb] at HS6
        simp only [← hfb]
        clear S6 hn6 hW6 CS hfb
        go_wp2_with (at_builtin; refine wpList_append_own_at _ rfl _ _ 23 rfl w.heap.size 5 i0 (.int .u8 0) 1 1 Try.underlying23 hi hz0 hz1 hz2 rfl (by decide) _ _ _ rfl HS6.out.1.row ⟨fb, 0, none⟩ 4 4 _ rfl ?c1 HS6.out.2 ?c2 ?c3 ?c4 ?c5 ?_)
        case c1 => rfl
        case c2 => intro u hu; simp at hu; rcases hu with rfl | rfl | rfl | rfl <;> rfl
        case c3 => unfold maxLen; omega
        case c4 => omega
        case c5 => exact hsz6
        intro v' W7 hown7 hgr7 hnil7 hloc7
        rw [four_byts sm hs64] at hown7
        have S7 := HS6.out.1.push (us := fourN sm) hown7 hgr7 hloc7
        rw [← HSS.out.2.2] at S7
        have hlq : fl.length + 4 = (writeN ps).length := by rw [HSS.out.2.2, List.length_append]; rfl
        obtain ⟨a', c', rfl, -⟩ := slice_of hown7
        obtain ⟨q, hq⟩ : ∃ q, q = fl.length + 4 := ⟨_, rfl⟩
        rw [← hq] at S7 hlq ⊢
        have hrow := S7.row
        rw [← hlq] at hrow
        obtain ⟨g, rfl, hgw⟩ : ∃ g, a' = some ⟨g, 0, none⟩ ∧ w.heap.size ≤ g := by
          obtain ⟨ao, cp, h1, h2⟩ := slice_of hrow
          obtain ⟨g, h3, h4⟩ := h2 (by omega)
          exact ⟨g, by have := h1; simp at this; rw [this.1, h3], h4⟩
        have hcap : q ≤ c' := by
          rcases hrow.2 with ⟨h1, -⟩ | ⟨g', cp, cur, h1, -, -, h2, -⟩
          · cases h1
          · simp at h1; omega
        have hbs7 : BS W7 (some ⟨g, 0, none⟩) (writeN ps) := by
          have := S7.row
          rw [hlq] at this
          exact bs_own this (writeN_lt ps) (by omega)
        have HF := hidp (And.intro hbs7 (And.intro hgw (And.intro S7.keeps hlq)))
        have hsl := run_full3 W7 g q c' hcap
        have hq20 : q ≤ 30000 := by omega
        clear hown7 hgr7 hnil7 hloc7 S7 hrow hgw hbs7 HS6 HSS hq hlq
        go_wp2
        go_ret2
        have e1 : (writeV ps).length = q := by rw [HV.out.1]; exact HF.out.2.2.2.symm
        refine ⟨⟨some ⟨g, 0, none⟩, q, ?_, ?_, by omega, fun k e => ?_, by omega⟩, HF.out.2.2.1⟩
        · rw [e1, HV.out.2]; rfl
        · rw [HV.out.1]; exact HF.out.1
        · simp [Value.ownBlock] at e; rw [e]; exact HF.out.2.1
  · have hv : writeV ps = [] := if_neg hc
    have HV := hidp hv
    have t1 : (chk ps != 0) = true := by simpa using hc
    have HK := hidp K1
    clear hc hv K1 HC
    go_wp2
    go_ret2
    refine ⟨⟨none, 0, by rw [HV.out]; rfl, ?_, by rw [HV.out]; simp, fun k e => by simp [Value.ownBlock] at e, by rw [HV.out]; simp⟩, HK.out⟩
    rw [HV.out]
    exact ⟨fun i hi => by simp at hi, by simp, by simp⟩
end Go.Proofs.Ytgebjmcdebdbmaa
