/- Write, the document's: the walk. -/
import Derived.Test.YtgebjmcdebdbmaaWriteW
import Derived.Deep.RegionHeld3
import Derived.Maps.AppendAt
namespace Go.Proofs.Ytgebjmcdebdbmaa
open Go.RowKit Go.Pairs

theorem cell_of_heap {W W' : World} {p : Addr} (h : W'.heap[p.block]? = W.heap[p.block]?) : W'.cell? p = W.cell? p := by
  simp only [World.cell?, h]
theorem grown_cell {W W' : World} {row : Option Nat} (h : W.grownBy W' row) {p : Addr} {u : Value} (hc : W.cell? p = some u) (hr : some p.block ≠ row) : W'.cell? p = some u :=
  (cell_of_heap (h.block p.block (lt_of_cell hc) hr)).trans hc

theorem bs_ownr {w : World} {B : Nat} {oa : Option Addr} {c : Nat} {bs : List Nat} (h : w.ownsRow B 5 1 (.slice oa bs.length c) bs.length (byts bs)) (hp : 0 < bs.length) :
    ∃ ad, oa = some ad ∧ B ≤ ad.block ∧ ∀ j u, (byts bs)[j]? = some u → w.cell? (ad.add j) = some u := by
  obtain ⟨ao, cap, h1, h2⟩ := slice_of h
  obtain ⟨g, rfl, hB⟩ := h2 hp
  obtain ⟨rfl, rfl⟩ : oa = some ⟨g, 0, none⟩ ∧ c = cap := by simpa using h1
  refine ⟨_, rfl, hB, fun j u hj => ?_⟩
  have hj2 : j < bs.length := by rw [← byts_len bs]; exact (List.getElem?_eq_some_iff.1 hj).1
  have hc := h.cellAt j (by omega)
  have e : (⟨g, 0, none⟩ : Addr).add j = ⟨g, j, none⟩ := by unfold Addr.add; split <;> simp_all
  rw [e, hc]
  exact hj
section
variable {P : Program}
/-- append at a step of a region that draws. -/
theorem step_append_at {w : World} {ops : Array Oper} {o : Oper} {a : Act} {K : Act → World → Prop} {Q : Exit → Act → World → Prop} {E : Prop} (hgd : o.guard = none) (s x : Operand) (t : TypeId)
    (ho : o.op = .call { callee := .builtin .append, args := #[s, x], argTypes := #[t, t] })
    (base : Nat) (e : TypeId) (i : TypeInfo) (z : Value) (size bytes : Nat) (ht : P.underlying t = some (.slice e)) (hi : P.info? e = some i) (hz : i.zero = some z)
    (hsize : i.size = size) (hby : i.bytes = bytes) (hzs : z.cells.size = size) (hsz : 0 < size)
    (v : Value) (n : Nat) (xs : List Value) (hs : a.eval s = v) (hown : w.ownsRow base e size v n xs)
    (ad : Addr) (m c : Nat) (news : List Value) (hx : a.eval x = .slice (some ad) m c) (hl : news.length = m * size) (hnews : ∀ j u, news[j]? = some u → w.cell? (ad.add j) = some u) (h1 : ∀ u ∈ news, u.oneCell' = true)
    (h63 : n + m ≤ maxLen) (hbytes : (n + m) * bytes ≤ 140737488355328) (hbase : base ≤ w.heap.size)
    (h : ∀ v' w', w'.ownsRow base e size v' (n + m) (xs ++ news) → w.grownBy w' v.ownBlock → (v' = .slice none 0 0 ↔ v = .slice none 0 0 ∧ m = 0) → (v'.ownBlock = v.ownBlock ∨ v'.ownBlock = some w.heap.size) → K (a.put o.dst v') w') :
    if Region.wanted o (yielded ops a.tmps) = true then Oper.wp P o a w K Q else E := by
  have hw : Region.wanted o (yielded ops a.tmps) = true := by simp [Region.wanted, hgd]
  rw [if_pos hw]
  obtain ⟨v', w', hr, h2, h3, h4, h5⟩ := run_append_own_at (P := P) w base t o.type e i z size bytes ht hi hz hsize hby hzs hsz v n xs hown ad m c news hl hnews h1 h63 hbytes hbase
  unfold Oper.wp execOp
  simp only [ho, resolve, invoke, builtin, Sem.run_bind, Sem.run_pure, Result.andThen_ok, List.map_toArray, List.map_cons, List.map_nil, hs, hx, hr]
  exact h v' w' h2 h3 h4 h5
end

set_option maxRecDepth 100000 in
set_option maxHeartbeats 4000000 in
theorem refwrite_walk (w : World) (so : Option Addr) (cap : Nat) (ps : List (Int × Int × Int)) (h : PT w so ps) :
    Calls Try.prog 17 #[.slice so ps.length cap] w fun e w' => (∃ oa oc, e = .returned (.tuple #[.slice oa (writeV ps).length oc, .int .i64 (chk ps)]) ∧ BS w' oa (writeV ps) ∧ (writeV ps).length ≤ 1000000 ∧ ∀ k, some k = (Value.slice oa (writeV ps).length oc).ownBlock → w.heap.size ≤ k) ∧ Keeps (fun _ => False) w w' := by
  obtain ⟨i0, hi, hz0, hz1, hz2⟩ := info_parts info5
  have HB := hidp h
  have hl := h.2
  have HC := hidp (refcheck_walk w so cap ps h)
  clear h
  go_enter Try.func17, Try.ntmps17
  go_wp2_with fail
  refine HC.out.mono ?_
  rintro e W1 ⟨⟨ci, rfl⟩, K1⟩
  by_cases hc : chk ps = 0
  · have hv : writeV ps = writeN ps := if_pos hc
    have hlen : ps.length ≤ 512 := by
      by_cases h5 : 512 < ps.length
      · rw [chk_many h5] at hc; omega
      · omega
    have hall : ps.all okp = true := by
      cases ha : ps.all okp with
      | true => rfl
      | false =>
        have : chk ps = 20 := by simp [chk, show ¬ 512 < ps.length by omega, ha]
        rw [this] at hc; omega
    rw [hc]
    have HV := hidp (And.intro hv hc)
    have HA := hidp hall
    have hcv : IntKind.u64.wrap (ps.length : Int) = ps.length := by rw [IntKind.wrap_u64]; omega
    have HK1 := hidp K1
    clear hv hc hall K1 HC
    -- the first byte and the number
    have KL : Keeps (fun _ => False) W1 (W1.alloc (.cells #[.int .u8 67] 5)) := (Keeps.refl _ _).alloc _
    have hlit : (W1.alloc (.cells #[.int .u8 67] 5)).ownsRow w.heap.size 5 1 (.slice (some ⟨W1.heap.size, 0, none⟩) 1 1) 1 (byts [67]) := World.ownsRow_lit W1 #[.int .u8 67] 1 HK1.out.size (by unfold maxLen; omega) rfl
    have HL := hidp (And.intro KL hlit)
    clear KL hlit
    go_wp2_with fail
    refine (refuint_walk _ ps.length (by omega)).mono ?_
    rintro e W2 ⟨⟨ua, uc, rfl, hbs⟩, K2⟩
    have hup := uintN_pos ps.length
    have hul := uintN_len10 (n := ps.length) (by omega)
    obtain ⟨us, hus⟩ : ∃ us, us = uintN ps.length := ⟨_, rfl⟩
    rw [← hus] at hbs hup hul ⊢
    have HU := hidp hus
    obtain ⟨ad, rfl, -, hnews⟩ := bs_ownr hbs hup
    have HR := hidp (keeps_row K2 HL.out.2 (by simp))
    have HKK := hidp ((HK1.out.trans HL.out.1).trans K2)
    have HN := hidp hnews
    clear hus hbs hnews K2
    go_wp2_with (at_builtin; refine wpList_append_own_at _ rfl _ _ 23 rfl w.heap.size 5 i0 (.int .u8 0) 1 1 Try.underlying23 hi hz0 hz1 hz2 rfl (by decide) _ _ _ rfl HR.out ad us.length uc (byts us) rfl ?c1 HN.out (byts_one us) ?c3 ?c4 ?c5 ?_)
    case c1 => rw [byts_len]; omega
    case c3 => unfold maxLen; omega
    case c4 => omega
    case c5 => exact HKK.out.size
    intro v' W3 hown3 hgr3 hnil3 hloc3
    obtain ⟨lb, hlb⟩ : ∃ lb, lb = W3.heap.size := ⟨_, rfl⟩
    obtain ⟨W4, hW4⟩ : ∃ W4, W4 = W3.alloc (.cells #[.int .i64 0, .int .i64 0, .int .i64 0] 53) := ⟨_, rfl⟩
    have S4 : WS w W4 lb (pv ps 0) (front ps 0) v' := by
      have K3 : Keeps (fun _ => False) w W3 := HKK.out.grown hgr3 (fun k e => .inr (own_ge HR.out k e.symm))
      have K4 : Keeps (fun _ => False) W3 W4 := hW4 ▸ (Keeps.refl _ _).alloc _
      have hr3 : W3.ownsRow w.heap.size 5 1 v' (front ps 0).length (byts (front ps 0)) := by
        have e : front ps 0 = [67] ++ us := by rw [HU.out]; simp [front, bodyK]
        rw [e, byts_app, List.length_append]
        exact hown3
      refine ⟨K3.trans K4, keeps_row K4 hr3 (by simp), ?_, hlb ▸ K3.size, fun e => ?_⟩
      · rw [hlb, hW4]; exact heap_alloc_new _ _
      · have := (hr3.lt lb e.symm).2; omega
    have hfl0 : (front ps 0).length ≤ 11 := by
      have e : front ps 0 = [67] ++ us := by rw [HU.out]; simp [front, bodyK]
      rw [e, List.length_append]; simp; omega
    obtain ⟨x1, x2, rfl, -⟩ := slice_of hown3
    have hlen3 : 1 + us.length = (front ps 0).length := by
      have e : front ps 0 = [67] ++ us := by rw [HU.out]; simp [front, bodyK]
      rw [e, List.length_append]; rfl
    rw [hlen3] at S4
    have HS4 := hidp (And.intro S4 hfl0)
    have HL3 := hidp hlen3
    clear hown3 hgr3 hnil3 hloc3 S4 hfl0 HR HKK HN HU HL HK1 hlen3
    go_upto_region 7 with (fail)
    rw [← hW4]
    simp only [← hlb]
    rw [HL3.out]
    clear hW4 hlb
    go_wp2
    go_loopw [6, 8] (fun v i wr => ∃ k : Nat, k ≤ ps.length ∧ i = .int .i64 k ∧ WS w wr lb (pv ps k) (front ps k) v ∧ (front ps k).length ≤ 11 + 30 * k) (fun _ i _ => ps.length - (intOf i).toNat)
    case atStart => exact ⟨0, Nat.zero_le _, rfl, HS4.out.1, by have := HS4.out.2; omega⟩
    case round =>
      obtain ⟨k, hk, rfl, S, hfl⟩ := hrel
      clear HS4 HL3
      by_cases hlt : k < ps.length
      · obtain ⟨b, off, rfl, c0, c1, c2⟩ := (HB.out.keep S.keeps).1 k hlt
        have hgd : ps.getD k (0, 0, 0) = ps[k] := by rw [List.getD_eq_getElem?_getD, List.getElem?_eq_getElem hlt]; rfl
        have hokp : okp ps[k] = true := List.all_eq_true.1 HA.out _ (List.getElem_mem hlt)
        have hokl := pv_ok HA.out k hk
        obtain ⟨x, hx⟩ : ∃ x, x = ps[k].1 := ⟨_, rfl⟩
        obtain ⟨y, hy⟩ : ∃ y, y = ps[k].2.1 := ⟨_, rfl⟩
        obtain ⟨z, hz⟩ : ∃ z, z = ps[k].2.2 := ⟨_, rfl⟩
        have hp : ps[k] = (x, y, z) := by rw [hx, hy, hz]
        rw [← hx] at c0
        rw [← hy] at c1
        rw [← hz] at c2
        obtain ⟨⟨lx, ly, lz⟩, hlv⟩ : ∃ l, l = pv ps k := ⟨_, rfl⟩
        rw [← hlv] at S hokl
        rw [hp] at hokp hgd
        obtain ⟨px, py, pz⟩ := okp_yes hokp
        obtain ⟨qx, qy, qz⟩ := okp_yes hokl
        have hpv : pv ps (k + 1) = (x, y, z) := hgd
        obtain ⟨dx, hdx⟩ : ∃ d, d = x - lx := ⟨_, rfl⟩
        obtain ⟨dy, hdy⟩ : ∃ d, d = y - ly := ⟨_, rfl⟩
        obtain ⟨dz, hdz⟩ : ∃ d, d = z - lz := ⟨_, rfl⟩
        have wx : IntKind.i64.wrap (x - lx) = dx := by rw [hdx]; exact IntWalk.i64_in _ (by omega)
        have wy : IntKind.i64.wrap (y - ly) = dy := by rw [hdy]; exact IntWalk.i64_in _ (by omega)
        have wz : IntKind.i64.wrap (z - lz) = dz := by rw [hdz]; exact IntWalk.i64_in _ (by omega)
        have HDx := hidp (show -4000000000 ≤ dx ∧ dx ≤ 4000000000 by omega)
        have HDy := hidp (show -4000000000 ≤ dy ∧ dy ≤ 4000000000 by omega)
        have HDz := hidp (show -4000000000 ≤ dz ∧ dz ≤ 4000000000 by omega)
        have HS := hidp (show uintN (zig dx) = stx ps k ∧ uintN (zig dy) = sty ps k ∧ uintN (zig dz) = stz ps k by
          unfold stx sty stz u1
          rw [hgd, ← hlv, hdx, hdy, hdz]
          exact ⟨rfl, rfl, rfl⟩)
        have HPV := hidp hpv
        have t2 : decide (k < ps.length) = true := by simpa using hlt
        have t3 : ((k : Int) < ps.length) := by omega
        have hw : IntKind.i64.wrap ((k : Int) + 1) = k + 1 := IntWalk.i64_in _ (by omega)
        obtain ⟨va0, vc0, rfl, -⟩ := slice_of S.row
        have hbw : b < w.heap.size := by
          obtain ⟨b', off', h1, h2, -⟩ := HB.out.1 k hlt
          obtain ⟨rfl, -⟩ : b = b' ∧ off = off' := by simpa using h1
          exact lt_of_cell h2
        have HNE := hidp hbw
        have HBC := hidp (show ∀ W, Keeps (fun _ => False) w W → W.cell? ⟨b, off + k * 3, none⟩ = some (.int .i64 x) ∧ W.cell? ⟨b, off + k * 3 + 1, none⟩ = some (.int .i64 y) ∧ W.cell? ⟨b, off + k * 3 + 2, none⟩ = some (.int .i64 z) from fun W hK => by
          obtain ⟨b', off', h1, h2, h3, h4⟩ := (HB.out.keep hK).1 k hlt
          obtain ⟨rfl, rfl⟩ : b = b' ∧ off = off' := by simpa using h1
          rw [hx, hy, hz]
          exact ⟨h2, h3, h4⟩)
        have hkl : k ≤ 512 := by omega
        obtain ⟨fl0, hfl0⟩ : ∃ fl, fl = front ps k := ⟨_, rfl⟩
        rw [← hfl0] at S hfl
        have HFL0 := hidp hfl0
        have hb0 : fl0.length ≤ 20000 := by omega
        have HS0 := hidp S
        have hsz0 := S.keeps.size
        have HFB := hidp hfl
        clear S hx hy hz hp hlv hgd hokp hokl px py pz qx qy qz hpv hdx hdy hdz hfl hbw hfl0
        -- x
        obtain ⟨zx, hzx⟩ : ∃ q, q = zig dx := ⟨_, rfl⟩
        have hz64x : zx < 18446744073709551616 := by rw [hzx]; exact zig_lt (by have := HDx.out; omega) (by have := HDx.out; omega)
        have Px : ∀ W, Calls Try.prog 25 #[.int .i64 dx] W fun e w' => e = .returned (.int .u64 zx) ∧ w' = W := fun W => by
          rw [hzx]; exact zig_walk W dx (by have := HDx.out; omega) (by have := HDx.out; omega)
        obtain ⟨usx, husx⟩ : ∃ us, us = uintN zx := ⟨_, rfl⟩
        have hupx : 1 ≤ usx.length := husx ▸ uintN_pos zx
        have hulx : usx.length ≤ 10 := husx ▸ uintN_len10 hz64x
        have hstx : usx = stx ps k := by rw [husx, hzx]; exact HS.out.1
        have Qx : ∀ W, Calls Try.prog 13 #[.int .u64 zx] W fun e w' => (∃ oa oc, e = .returned (.slice oa usx.length oc) ∧ w'.ownsRow W.heap.size 5 1 (.slice oa usx.length oc) usx.length (byts usx)) ∧ Keeps (fun _ => False) W w' := fun W => by
          rw [husx]; exact refuint_walk W zx hz64x
        have HXx := hidp (And.intro hstx hupx)
        have HPPx := hidp Px
        have HQQx := hidp Qx
        have Cx : wr.cell? ⟨b, off + k * 3, none⟩ = some (.int .i64 x) := (HBC.out _ HS0.out.keeps).1
        have Gx : wr.cell? ⟨lb, 0, none⟩ = some (.int .i64 lx) := by simpa using cells_at HS0.out.box 0
        have HNx := hidp (show some b ≠ (Value.slice va0 fl0.length vc0).ownBlock ∧ some lb ≠ (Value.slice va0 fl0.length vc0).ownBlock from ⟨fun e => by have := own_ge HS0.out.row b e; have := HNE.out; omega, HS0.out.ne⟩)
        clear hstx hupx husx hzx Px Qx hz64x
        go_upto_region 10 with (fail)
        rw [← HFL0.out]
        go_region_held3 (fun W => W.cell? ⟨b, off + k * 3, none⟩ = some (.int .i64 x) ∧ W.cell? ⟨lb, 0, none⟩ = some (.int .i64 lx)) (first | exact ⟨Cx, Gx⟩ | exact HGx.out | exact HJx.out) ((first
          | (refine (HPPx.out _).mono ?_; rintro e W6x ⟨rfl, rfl⟩)
          | (refine (HQQx.out _).mono ?_; rintro e W7x ⟨⟨uax, ucx, rfl, hux⟩, K7x⟩; obtain ⟨adx, rfl, -, hnx⟩ := bs_ownr hux HXx.out.2; have HGx := hidp (And.intro (K7x.cell Cx (by simp)) (K7x.cell Gx (by simp))); have HTx := hidp (And.intro (HS0.out.quiet (((Keeps.refl _ _).drew).trans K7x)) hnx); clear hux K7x hnx)
          | (refine step_append_at rfl (.tmp 32) (.tmp 42) 23 (by rfl) w.heap.size 5 i0 (.int .u8 0) 1 1 Try.underlying23 hi hz0 hz1 hz2 rfl (by decide) (.slice va0 fl0.length vc0) fl0.length (byts fl0) (by rfl) HTx.out.1.row adx usx.length ucx (byts usx) (by rfl) (by rw [byts_len]; omega) HTx.out.2 (byts_one usx) (by unfold maxLen; omega) (by omega) HTx.out.1.keeps.size ?_; intro v8x w8x hown8x hgr8x hnil8x hloc8x; have HJx := hidp (And.intro (grown_cell hgr8x HGx.out.1 HNx.out.1) (grown_cell hgr8x HGx.out.2 HNx.out.2)))))
        have S1 := HTx.out.1.push hown8x hgr8x hloc8x
        obtain ⟨va1, vc1, rfl, -⟩ := slice_of hown8x
        obtain ⟨fl1, hfl1⟩ : ∃ fl, fl = fl0 ++ usx := ⟨_, rfl⟩
        have hll1 : fl0.length + usx.length = fl1.length := by rw [hfl1, List.length_append]
        rw [← hfl1] at S1
        rw [hll1] at S1 ⊢
        have hb1 : fl1.length ≤ 20000 + 10 := by omega
        have HS1 := hidp S1
        have HFL1 := hidp (And.intro hfl1 hll1)
        clear S1 hfl1 hll1 hown8x hgr8x hnil8x hloc8x HJx HTx HGx HNx Cx Gx HPPx HQQx HS0
        -- y
        obtain ⟨zy, hzy⟩ : ∃ q, q = zig dy := ⟨_, rfl⟩
        have hz64y : zy < 18446744073709551616 := by rw [hzy]; exact zig_lt (by have := HDy.out; omega) (by have := HDy.out; omega)
        have Py : ∀ W, Calls Try.prog 25 #[.int .i64 dy] W fun e w' => e = .returned (.int .u64 zy) ∧ w' = W := fun W => by
          rw [hzy]; exact zig_walk W dy (by have := HDy.out; omega) (by have := HDy.out; omega)
        obtain ⟨usy, husy⟩ : ∃ us, us = uintN zy := ⟨_, rfl⟩
        have hupy : 1 ≤ usy.length := husy ▸ uintN_pos zy
        have huly : usy.length ≤ 10 := husy ▸ uintN_len10 hz64y
        have hsty : usy = sty ps k := by rw [husy, hzy]; exact HS.out.2.1
        have Qy : ∀ W, Calls Try.prog 13 #[.int .u64 zy] W fun e w' => (∃ oa oc, e = .returned (.slice oa usy.length oc) ∧ w'.ownsRow W.heap.size 5 1 (.slice oa usy.length oc) usy.length (byts usy)) ∧ Keeps (fun _ => False) W w' := fun W => by
          rw [husy]; exact refuint_walk W zy hz64y
        have HXy := hidp (And.intro hsty hupy)
        have HPPy := hidp Py
        have HQQy := hidp Qy
        have Cy : w8x.cell? ⟨b, off + k * 3 + 1, none⟩ = some (.int .i64 y) := (HBC.out _ HS1.out.keeps).2.1
        have Gy : w8x.cell? ⟨lb, 1, none⟩ = some (.int .i64 ly) := by simpa using cells_at HS1.out.box 1
        have HNy := hidp (show some b ≠ (Value.slice va1 fl1.length vc1).ownBlock ∧ some lb ≠ (Value.slice va1 fl1.length vc1).ownBlock from ⟨fun e => by have := own_ge HS1.out.row b e; have := HNE.out; omega, HS1.out.ne⟩)
        clear hsty hupy husy hzy Py Qy hz64y
        go_upto_region 11 with (fail)
        
        go_region_held3 (fun W => W.cell? ⟨b, off + k * 3 + 1, none⟩ = some (.int .i64 y) ∧ W.cell? ⟨lb, 1, none⟩ = some (.int .i64 ly)) (first | exact ⟨Cy, Gy⟩ | exact HGy.out | exact HJy.out) ((first
          | (refine (HPPy.out _).mono ?_; rintro e W6y ⟨rfl, rfl⟩)
          | (refine (HQQy.out _).mono ?_; rintro e W7y ⟨⟨uay, ucy, rfl, huy⟩, K7y⟩; obtain ⟨ady, rfl, -, hny⟩ := bs_ownr huy HXy.out.2; have HGy := hidp (And.intro (K7y.cell Cy (by simp)) (K7y.cell Gy (by simp))); have HTy := hidp (And.intro (HS1.out.quiet (((Keeps.refl _ _).drew).trans K7y)) hny); clear huy K7y hny)
          | (refine step_append_at rfl (.tmp 44) (.tmp 54) 23 (by rfl) w.heap.size 5 i0 (.int .u8 0) 1 1 Try.underlying23 hi hz0 hz1 hz2 rfl (by decide) (.slice va1 fl1.length vc1) fl1.length (byts fl1) (by rfl) HTy.out.1.row ady usy.length ucy (byts usy) (by rfl) (by rw [byts_len]; omega) HTy.out.2 (byts_one usy) (by unfold maxLen; omega) (by omega) HTy.out.1.keeps.size ?_; intro v8y w8y hown8y hgr8y hnil8y hloc8y; have HJy := hidp (And.intro (grown_cell hgr8y HGy.out.1 HNy.out.1) (grown_cell hgr8y HGy.out.2 HNy.out.2)))))
        have S2 := HTy.out.1.push hown8y hgr8y hloc8y
        obtain ⟨va2, vc2, rfl, -⟩ := slice_of hown8y
        obtain ⟨fl2, hfl2⟩ : ∃ fl, fl = fl1 ++ usy := ⟨_, rfl⟩
        have hll2 : fl1.length + usy.length = fl2.length := by rw [hfl2, List.length_append]
        rw [← hfl2] at S2
        rw [hll2] at S2 ⊢
        have hb2 : fl2.length ≤ 20000 + 20 := by omega
        have HS2 := hidp S2
        have HFL2 := hidp (And.intro hfl2 hll2)
        clear S2 hfl2 hll2 hown8y hgr8y hnil8y hloc8y HJy HTy HGy HNy Cy Gy HPPy HQQy HS1
        -- z
        obtain ⟨zz, hzz⟩ : ∃ q, q = zig dz := ⟨_, rfl⟩
        have hz64z : zz < 18446744073709551616 := by rw [hzz]; exact zig_lt (by have := HDz.out; omega) (by have := HDz.out; omega)
        have Pz : ∀ W, Calls Try.prog 25 #[.int .i64 dz] W fun e w' => e = .returned (.int .u64 zz) ∧ w' = W := fun W => by
          rw [hzz]; exact zig_walk W dz (by have := HDz.out; omega) (by have := HDz.out; omega)
        obtain ⟨usz, husz⟩ : ∃ us, us = uintN zz := ⟨_, rfl⟩
        have hupz : 1 ≤ usz.length := husz ▸ uintN_pos zz
        have hulz : usz.length ≤ 10 := husz ▸ uintN_len10 hz64z
        have hstz : usz = stz ps k := by rw [husz, hzz]; exact HS.out.2.2
        have Qz : ∀ W, Calls Try.prog 13 #[.int .u64 zz] W fun e w' => (∃ oa oc, e = .returned (.slice oa usz.length oc) ∧ w'.ownsRow W.heap.size 5 1 (.slice oa usz.length oc) usz.length (byts usz)) ∧ Keeps (fun _ => False) W w' := fun W => by
          rw [husz]; exact refuint_walk W zz hz64z
        have HXz := hidp (And.intro hstz hupz)
        have HPPz := hidp Pz
        have HQQz := hidp Qz
        have Cz : w8y.cell? ⟨b, off + k * 3 + 2, none⟩ = some (.int .i64 z) := (HBC.out _ HS2.out.keeps).2.2
        have Gz : w8y.cell? ⟨lb, 2, none⟩ = some (.int .i64 lz) := by simpa using cells_at HS2.out.box 2
        have HNz := hidp (show some b ≠ (Value.slice va2 fl2.length vc2).ownBlock ∧ some lb ≠ (Value.slice va2 fl2.length vc2).ownBlock from ⟨fun e => by have := own_ge HS2.out.row b e; have := HNE.out; omega, HS2.out.ne⟩)
        clear hstz hupz husz hzz Pz Qz hz64z
        go_upto_region 12 with (fail)
        
        go_region_held3 (fun W => W.cell? ⟨b, off + k * 3 + 2, none⟩ = some (.int .i64 z) ∧ W.cell? ⟨lb, 2, none⟩ = some (.int .i64 lz)) (first | exact ⟨Cz, Gz⟩ | exact HGz.out | exact HJz.out) ((first
          | (refine (HPPz.out _).mono ?_; rintro e W6z ⟨rfl, rfl⟩)
          | (refine (HQQz.out _).mono ?_; rintro e W7z ⟨⟨uaz, ucz, rfl, huz⟩, K7z⟩; obtain ⟨adz, rfl, -, hnz⟩ := bs_ownr huz HXz.out.2; have HGz := hidp (And.intro (K7z.cell Cz (by simp)) (K7z.cell Gz (by simp))); have HTz := hidp (And.intro (HS2.out.quiet (((Keeps.refl _ _).drew).trans K7z)) hnz); clear huz K7z hnz)
          | (refine step_append_at rfl (.tmp 56) (.tmp 66) 23 (by rfl) w.heap.size 5 i0 (.int .u8 0) 1 1 Try.underlying23 hi hz0 hz1 hz2 rfl (by decide) (.slice va2 fl2.length vc2) fl2.length (byts fl2) (by rfl) HTz.out.1.row adz usz.length ucz (byts usz) (by rfl) (by rw [byts_len]; omega) HTz.out.2 (byts_one usz) (by unfold maxLen; omega) (by omega) HTz.out.1.keeps.size ?_; intro v8z w8z hown8z hgr8z hnil8z hloc8z; have HJz := hidp (And.intro (grown_cell hgr8z HGz.out.1 HNz.out.1) (grown_cell hgr8z HGz.out.2 HNz.out.2)))))
        have S3 := HTz.out.1.push hown8z hgr8z hloc8z
        obtain ⟨va3, vc3, rfl, -⟩ := slice_of hown8z
        obtain ⟨fl3, hfl3⟩ : ∃ fl, fl = fl2 ++ usz := ⟨_, rfl⟩
        have hll3 : fl2.length + usz.length = fl3.length := by rw [hfl3, List.length_append]
        rw [← hfl3] at S3
        rw [hll3] at S3 ⊢
        have hb3 : fl3.length ≤ 20000 + 30 := by omega
        have HS3 := hidp S3
        have HFL3 := hidp (And.intro hfl3 hll3)
        clear S3 hfl3 hll3 hown8z hgr8z hnil8z hloc8z HJz HTz HGz HNz Cz Gz HPPz HQQz HS2
        have HBX := hidp (HBC.out _ HS3.out.keeps)
        have e0 := HBX.out.1
        have e1 := HBX.out.2.1
        have e2 := HBX.out.2.2
        have g0 := cells_at HS3.out.box 0
        have g1 := cells_at HS3.out.box 1
        have g2 := cells_at HS3.out.box 2
        have f0 := free_at HS3.out.box 0
        have f1 := free_at HS3.out.box 1
        have f2 := free_at HS3.out.box 2
        simp only [List.getElem?_toArray, List.getElem?_cons_zero, List.getElem?_cons_succ] at g0 g1 g2
        have hfe : fl3 = front ps (k + 1) := by
          rw [HFL3.out.1, HFL2.out.1, HFL1.out.1, HFL0.out, front_succ, HXx.out.1, HXy.out.1, HXz.out.1]
          simp
        have hfl3 : fl3.length ≤ 11 + 30 * (k + 1) := by
          have h1 := HFL3.out.2
          have h2 := HFL2.out.2
          have h3 := HFL1.out.2
          have h4 := HFB.out
          omega
        have S7 := HS3.out.last x y z
        have HF := hidp (And.intro S7 hfl3)
        have HFE := hidp hfe
        clear S7 hfl3 hfe HS3
        go_wp2
        refine ⟨⟨k + 1, by omega, rfl, ?_, HFE.out ▸ HF.out.2⟩, by simp [intOf]; omega⟩
        rw [HPV.out, ← HFE.out]
        exact HF.out.1
      · obtain rfl : k = ps.length := by omega
        have t2 : decide (ps.length < ps.length) = false := by simp
        obtain ⟨fl, hfle⟩ : ∃ fl, fl = front ps ps.length := ⟨_, rfl⟩
        have hfb : ∀ x ∈ fl, x < 256 := by rw [hfle]; exact front_lt ps _
        have hw5 : writeN ps = fl ++ fourN (sumN fl) := by rw [hfle]; rfl
        rw [← hfle] at S hfl
        obtain ⟨va, vc, rfl, -⟩ := slice_of S.row
        have hbs := bs_own S.row hfb (by omega)
        have hs64 := sumN_lt hfb
        have CS := hidp (refsum_walk wr va vc fl hbs)
        obtain ⟨sm, hsm⟩ : ∃ sm, sm = sumN fl := ⟨_, rfl⟩
        rw [← hsm] at CS hw5 hs64
        have HSS := hidp (And.intro S (And.intro hfb hw5))
        have hfl2 : fl.length ≤ 20000 := by omega
        have HFE := hidp hfle
        clear S hfb hw5 hbs hsm hfle hfl
        go_wp2_with (fail)
        try rw [← HFE.out]
        refine CS.out.mono ?_
        rintro e W5 ⟨rfl, rfl⟩
        have S6 := HSS.out.1.quiet (W' := W5.alloc (.cells #[.int .u8 ((sm : Int) % 256), .int .u8 ((sm : Int) / 256 % 256), .int .u8 ((sm : Int) / 65536 % 256), .int .u8 ((sm : Int) / 16777216)] 5)) ((Keeps.refl _ _).alloc _)
        have hn6 := cell_four_new W5 (.int .u8 ((sm : Int) % 256)) (.int .u8 ((sm : Int) / 256 % 256)) (.int .u8 ((sm : Int) / 65536 % 256)) (.int .u8 ((sm : Int) / 16777216)) 5
        have HS6 := hidp (And.intro S6 hn6)
        have HZ6 := hidp S6.keeps.size
        clear S6 hn6 CS
        go_wp2_with (at_builtin; refine wpList_append_own_at _ rfl _ _ 23 rfl w.heap.size 5 i0 (.int .u8 0) 1 1 Try.underlying23 hi hz0 hz1 hz2 rfl (by decide) _ _ _ rfl HS6.out.1.row ⟨W5.heap.size, 0, none⟩ 4 4 _ rfl ?c1 HS6.out.2 ?c2 ?c3 ?c4 ?c5 ?_)
        case c1 => rfl
        case c2 => intro u hu; simp at hu; rcases hu with rfl | rfl | rfl | rfl <;> rfl
        case c3 => unfold maxLen; omega
        case c4 => omega
        case c5 => exact HZ6.out
        intro v' W7 hown7 hgr7 hnil7 hloc7
        rw [four_byts sm hs64] at hown7
        have S7 := HS6.out.1.push (us := fourN sm) hown7 hgr7 (hloc7.imp id fun e => e.trans (congrArg some (Array.size_push ..).symm))
        rw [← HSS.out.2.2] at S7
        have hlq : fl.length + 4 = (writeN ps).length := by rw [HSS.out.2.2, List.length_append]; rfl
        obtain ⟨a', c', rfl, -⟩ := slice_of hown7
        obtain ⟨q, hq⟩ : ∃ q, q = fl.length + 4 := ⟨_, rfl⟩
        rw [← hq] at S7 hlq ⊢
        have hrow := S7.row
        rw [← hlq] at hrow
        have hbs7 : BS W7 a' (writeN ps) := by
          have := S7.row
          rw [hlq] at this
          exact bs_own this (writeN_lt ps) (by omega)
        have HF := hidp (And.intro hbs7 (And.intro hrow (And.intro S7.keeps hlq)))
        have hq20 : q ≤ 30000 := by omega
        clear hown7 hgr7 hnil7 hloc7 S7 hrow hbs7 HS6 HSS hq hlq HZ6
        go_wp2
        go_ret2
        have e1 : (writeV ps).length = q := by rw [HV.out.1]; exact HF.out.2.2.2.symm
        refine ⟨⟨a', c', ?_, ?_, by omega, fun k e => ?_⟩, HF.out.2.2.1⟩
        · rw [e1, HV.out.2]; rfl
        · rw [HV.out.1]; exact HF.out.1
        · exact own_ge HF.out.2.1 k (by rw [e1] at e; exact e)
  · have hv : writeV ps = [] := if_neg hc
    have HV := hidp hv
    have t1 : (chk ps != 0) = true := by simpa using hc
    have HK := hidp K1
    clear hc hv K1 HC
    go_wp2
    go_ret2
    refine ⟨⟨none, 0, by rw [HV.out]; rfl, ?_, by rw [HV.out]; simp, fun k e => by simp [Value.ownBlock] at e⟩, HK.out⟩
    rw [HV.out]
    exact ⟨fun i hi => by simp at hi, by simp, by simp⟩
end Go.Proofs.Ytgebjmcdebdbmaa
