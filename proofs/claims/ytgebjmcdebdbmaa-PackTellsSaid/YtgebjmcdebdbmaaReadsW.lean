/- PackReads: the walk. -/
import Derived.Test.YtgebjmcdebdbmaaAppB
import Derived.Test.YtgebjmcdebdbmaaAwake
import Derived.Deep.Cut
import Derived.WalkMore
namespace Go.Proofs.Ytgebjmcdebdbmaa
open Go.RowKit Go.Pairs

theorem own_set {w : World} {B g n cap : Nat} {xs : List Value} (h : w.ownsRow B 5 1 (.slice (some ⟨g, 0, none⟩) n cap) n xs) (i : Nat) (u : Value) : (w.setCell ⟨g, i, none⟩ u).ownsRow B 5 1 (.slice (some ⟨g, 0, none⟩) n cap) n (xs.set i u) := by
  obtain ⟨hl, ⟨h1, -⟩ | ⟨g', cp, cur, h1, h2, h3, h4, h5, h6, h7⟩⟩ := h
  · cases h1
  · obtain ⟨rfl, rfl⟩ : g = g' ∧ cap = cp := by simpa using h1
    refine ⟨by rw [List.length_set]; exact hl, .inr ⟨g, cap, cur.setIfInBounds i u, rfl, h2, ?_, h4, h5, by rw [Array.size_setIfInBounds]; exact h6, ?_⟩⟩
    · simp [World.setCell, Array.getElem?_modify, h3]
    · rw [Array.toList_setIfInBounds, List.take_set, h7]
theorem own_free {w : World} {B g n cap : Nat} {xs : List Value} (h : w.ownsRow B 5 1 (.slice (some ⟨g, 0, none⟩) n cap) n xs) (i : Nat) : w.frozen? ⟨g, i, none⟩ = false := by
  obtain ⟨hl, ⟨h1, -⟩ | ⟨g', cp, cur, h1, h2, h3, -⟩⟩ := h
  · cases h1
  · obtain ⟨rfl, rfl⟩ : g = g' ∧ cap = cp := by simpa using h1
    exact free_at h3 i
theorem byts_set (bs : List Nat) (i x : Nat) : byts (bs.set i x) = (byts bs).set i (.int .u8 (x : Int)) := by simp [byts]
theorem byts_at {bs : List Nat} {i : Nat} (h : i < bs.length) : (byts bs)[i]? = some (.int .u8 (bs[i] : Nat)) := by simp [byts, h]

/-- the place at among n, whatever at's sign. -/
def atN (a : Int) (n : Nat) : Nat := ((a.tmod n + n).tmod n).toNat
theorem atN_lt (a : Int) {n : Nat} (h : 0 < n) : atN a n < n ∧ (a.tmod n + n).tmod n = (atN a n : Int) ∧ -(n : Int) < a.tmod n ∧ a.tmod n < n := by
  have h1 : a.tmod n < n := Int.tmod_lt_of_pos a (by omega)
  have h2 : -(n : Int) < a.tmod n := Int.lt_tmod_of_pos a (by omega)
  have h3 : (a.tmod n + n).tmod n < n := Int.tmod_lt_of_pos _ (by omega)
  have h4 : 0 ≤ (a.tmod n + n).tmod n := Int.tmod_nonneg _ (by omega)
  unfold atN
  omega

theorem own_bs {w : World} {B g n cap : Nat} {l : List Nat} (h : w.ownsRow B 5 1 (.slice (some ⟨g, 0, none⟩) n cap) n (byts l)) (hb : ∀ x ∈ l, x < 256) (hn : n ≤ 1000000000) : BS w (some ⟨g, 0, none⟩) l ∧ l.length = n := by
  have hl : l.length = n := by have := h.1; rw [byts_len] at this; omega
  subst hl
  exact ⟨bs_own h hb (by omega), rfl⟩
theorem run_upto (w : World) (g n cap k : Nat) (hk : k ≤ n) (hc : n ≤ cap) : (Instr.slice 23 (.slice (some ⟨g, 0, none⟩) n cap) none (some (.int .i64 (k : Int))) none).run Try.prog w = .ok (.slice (some ⟨g, 0, none⟩) k cap) w := by
  have hkc : k ≤ cap := by omega
  simp [Instr.slice, run_underlying Try.underlying23, Instr.sliceBounds, Instr.sliceBound, asIntOf, sizeOf, hkc, Addr.add]
theorem BS.take {w : World} {so : Option Addr} {l : List Nat} (h : BS w so l) (k : Nat) : BS w so (l.take k) := by
  refine ⟨fun i hi => ?_, fun x hx => h.2.1 x (List.mem_of_mem_take hx), by rw [List.length_take]; have := h.2.2; omega⟩
  rw [List.length_take] at hi
  obtain ⟨b, off, h1, h2⟩ := h.1 i (by omega)
  exact ⟨b, off, h1, by rw [h2]; simp⟩

set_option maxRecDepth 100000 in
set_option maxHeartbeats 8000000 in
theorem packreads_yes (w : World) (so pa : Option Addr) (cap pc : Nat) (bs : List Nat) (ps : List P3) (at_ cut : Int) (x : Nat) (hx : x < 256) (h : BS w so bs) (hcap : bs.length ≤ cap) (hp : PT w pa ps) :
    Calls Try.prog 5 #[.slice so bs.length cap, .slice pa ps.length pc, .int .i64 at_, .int .u8 x, .int .i64 cut] w fun e w' => e = .returned (.bool true) ∧ Keeps (fun _ => False) w w' := by
  have HB := hidp h
  have HP := hidp hp
  have C1 := hidp (refwrite_walk w pa pc ps hp)
  clear h hp
  go_enter Try.func5, Try.ntmps5
  by_cases hl : 3000 < bs.length
  · have t1 : decide (3000 < bs.length) = true := by simpa using hl
    have t1' : decide ((3000 : Int) < bs.length) = true := by simp; omega
    clear C1
    go_wp2_with fail
    refine (awake_any w).mono ?_
    rintro e W1 ⟨rfl, K1⟩
    have HK := hidp K1
    clear K1
    go_wp2_with fail
    go_ret
    exact ⟨rfl, HK.out⟩
  have t1 : decide (3000 < bs.length) = false := by simpa using hl
  have t1' : decide ((3000 : Int) < bs.length) = false := by simp; omega
  by_cases hl2 : 100 < ps.length
  · have t2 : decide (100 < ps.length) = true := by simpa using hl2
    have t2' : decide ((100 : Int) < ps.length) = true := by simp; omega
    clear C1
    go_wp2_with fail
    refine (awake_any w).mono ?_
    rintro e W1 ⟨rfl, K1⟩
    have HK := hidp K1
    clear K1
    go_wp2_with fail
    go_ret
    exact ⟨rfl, HK.out⟩
  have t2 : decide (100 < ps.length) = false := by simpa using hl2
  have t2' : decide ((100 : Int) < ps.length) = false := by simp; omega
  go_wp2_with fail
  refine C1.out.mono ?_
  rintro e W1 ⟨⟨oa, oc, rfl, hbs, hwl, -⟩, K1⟩
  obtain ⟨wl, hwle⟩ : ∃ wl, wl = writeV ps := ⟨_, rfl⟩
  rw [← hwle] at hbs hwl ⊢
  have HW := hidp (And.intro hbs K1)
  have KA : Keeps (fun _ => False) W1 (W1.alloc (.cells #[] 5)) := (Keeps.refl _ _).alloc _
  have hrowA : (W1.alloc (.cells #[] 5)).ownsRow W1.heap.size 5 1 (.slice (some ⟨W1.heap.size, 0, none⟩) 0 0) 0 (byts []) := World.ownsRow_lit W1 #[] 0 (Nat.le_refl _) (by unfold maxLen; omega) rfl
  have HA := hidp (And.intro hrowA KA)
  clear hbs K1 C1 hwle t1 t1' t2 t2' hl hl2 KA hrowA
  go_wp2_with (at_builtin; refine wpList_app rfl _ _ rfl W1.heap.size (.slice (some ⟨W1.heap.size, 0, none⟩) 0 0) [] wl rfl HA.out.1 oa oc rfl (HW.out.1.keep HA.out.2) (by simp; omega) HA.out.2.size ?_)
  intro v1 W2 hown1 hgr1 hloc1
  have K2 : Keeps (fun _ => False) W1 W2 := HA.out.2.then_ ((Keeps.refl (fun k => some k = (Value.slice (some ⟨W1.heap.size, 0, none⟩) 0 0).ownBlock) (W1.alloc (.cells #[] 5))).grown hgr1 (fun k e => .inl e.symm)) (fun i hi e => by simp [Value.ownBlock] at e; omega)
  have hrow : W2.ownsRow W1.heap.size 5 1 v1 wl.length (byts wl) := by simpa [byts] using hown1
  obtain ⟨g, gc, rfl, hgc, hgB⟩ : ∃ g gc, v1 = .slice (some ⟨g, 0, none⟩) wl.length gc ∧ wl.length ≤ gc ∧ W1.heap.size ≤ g := by
    rcases hloc1 with e | e
    · rcases hrow.2 with ⟨h1, h2⟩ | ⟨g', cp, cur, h1, h2, -, h4, -⟩
      · rw [h1] at e; simp [Value.ownBlock] at e
      · exact ⟨g', cp, h1, h4, h2⟩
    · rcases hrow.2 with ⟨h1, h2⟩ | ⟨g', cp, cur, h1, h2, -, h4, -⟩
      · rw [h1] at e; simp [Value.ownBlock] at e
      · exact ⟨g', cp, h1, h4, h2⟩
  have HR := hidp (And.intro hrow (And.intro K2 hgB))
  try simp only [List.length_nil, Nat.zero_add]
  clear hown1 hgr1 hloc1 hrow K2 hgB HA
  go_upto_if 33 with (fail)
  go_cut [13] from 14 (fun c W => ∃ cs : List Nat, c = .slice (some ⟨g, 0, none⟩) cs.length gc ∧ cs.length ≤ gc ∧ cs.length ≤ 1000000 ∧ BS W (some ⟨g, 0, none⟩) cs ∧ Keeps (fun _ => False) w W ∧ BS W oa wl)
  case rest =>
    obtain ⟨cs, rfl, hcg, hcm, hcb, hcK, hcw⟩ := hcut
    rename_i hk
    refine hk _ _ ?_
    refine wp_seq_k fun K2 hK2 => ?_
    have HCB := hidp (And.intro hcb (And.intro hcK hcw))
    clear hcb hcK hcw
    go_cut [13] from 14 (fun c W => ∃ cs : List Nat, c = .slice (some ⟨g, 0, none⟩) cs.length gc ∧ cs.length ≤ gc ∧ cs.length ≤ 1000000 ∧ BS W (some ⟨g, 0, none⟩) cs ∧ Keeps (fun _ => False) w W ∧ BS W oa wl)
    case rest =>
      obtain ⟨ds, rfl, hdg, hdm, hdb, hdK, hdw⟩ := hcut
      refine hK2 _ _ ?_
      have HC := hidp (And.intro hdb (And.intro hdK hdg))
      have HWW := hidp hdw
      clear hdb hdK hdw HCB HR
      have CB := hidp (reads_walk _ so cap bs (HB.out.keep HC.out.2.1) hcap)
      go_wp2_with fail
      refine CB.out.mono ?_
      rintro e W3 ⟨rfl, K3⟩
      have CC := hidp (reads_walk W3 (some ⟨g, 0, none⟩) gc ds (HC.out.1.keep K3) HC.out.2.2)
      have HWB := hidp (HWW.out.keep K3)
      have HK3 := hidp (HC.out.2.1.trans K3)
      clear CB K3
      go_wp2_with fail
      refine CC.out.mono ?_
      rintro e W4 ⟨rfl, K4⟩
      have KA : Keeps (fun _ => False) W4 (W4.alloc (.cells #[] 5)) := (Keeps.refl _ _).alloc _
      have hrowA : (W4.alloc (.cells #[] 5)).ownsRow W4.heap.size 5 1 (.slice (some ⟨W4.heap.size, 0, none⟩) 0 0) 0 (byts []) := World.ownsRow_lit W4 #[] 0 (Nat.le_refl _) (by unfold maxLen; omega) rfl
      have HA := hidp (And.intro hrowA KA)
      have HWC := hidp (HWB.out.keep K4)
      have HK4 := hidp (HK3.out.trans K4)
      clear CC K4 KA hrowA
      go_wp2_with (at_builtin; refine wpList_app_w (by rfl) _ _ rfl W4.heap.size (.slice (some ⟨W4.heap.size, 0, none⟩) 0 0) [] wl rfl HA.out.1 oa oc rfl (HWC.out.keep HA.out.2) (by simp; omega) HA.out.2.size ?_)
      intro v5 W5 hown5 hgr5 hloc5
      have K5 : Keeps (fun _ => False) W4 W5 := HA.out.2.then_ ((Keeps.refl (fun k => some k = (Value.slice (some ⟨W4.heap.size, 0, none⟩) 0 0).ownBlock) (W4.alloc (.cells #[] 5))).grown hgr5 (fun k e => .inl e.symm)) (fun i hi e => by simp [Value.ownBlock] at e; omega)
      have hrow5 : W5.ownsRow W4.heap.size 5 1 v5 wl.length (byts wl) := by simpa [byts] using hown5
      have KB : Keeps (fun _ => False) W5 (W5.alloc (.cells #[.int .u8 x] 5)) := (Keeps.refl _ _).alloc _
      have hrowB := keeps_row KB hrow5 (by simp)
      have hbx : BS (W5.alloc (.cells #[.int .u8 x] 5)) (some ⟨W5.heap.size, 0, none⟩) [x] := bs_lit W5 [x] (0, 0) (by simpa using hx) (by simp)
      have HX := hidp (And.intro hrowB (And.intro hbx (K5.trans KB)))
      obtain ⟨va, vc, rfl, hvc⟩ := own_shape hrow5
      try simp only [List.length_nil, Nat.zero_add]
      clear hown5 hgr5 hloc5 K5 hrow5 KB hrowB hbx HA
      go_wp2_with (at_builtin; refine wpList_app_w (by rfl) _ _ rfl W4.heap.size (.slice va wl.length vc) wl [x] rfl HX.out.1 (some ⟨W5.heap.size, 0, none⟩) 1 rfl HX.out.2.1 (by simp; omega) HX.out.2.2.size ?_)
      intro v6 W6 hown6 hgr6 hloc6
      have K6 : Keeps (fun _ => False) W4 W6 := HX.out.2.2.then_ ((Keeps.refl (fun k => some k = (Value.slice va wl.length vc).ownBlock) (W5.alloc (.cells #[.int .u8 x] 5))).grown hgr6 (fun k e => .inl e.symm)) (fun i hi e => by have := own_ge HX.out.1 i e; omega)
      rw [← byts_app] at hown6
      have hl6 : wl.length + 1 = (wl ++ [x]).length := by simp
      rw [hl6] at hown6
      obtain ⟨vd, ve, rfl, hve⟩ := own_shape hown6
      have hb6 : BS W6 vd (wl ++ [x]) := bs_own hown6 (by intro y hy; rcases List.mem_append.1 hy with hy | hy; · exact HWC.out.2.1 y hy
                                                          · simp at hy; omega) (by simp; omega)
      have CD := hidp (reads_walk W6 vd ve (wl ++ [x]) hb6 hve)
      have HK6 := hidp (HK4.out.trans K6)
      obtain ⟨ql, hql⟩ : ∃ ql, ql = (wl ++ [x]).length := ⟨_, rfl⟩
      rw [← hql] at CD ⊢
      clear hown6 hgr6 hloc6 K6 hl6 hb6 HX hql hve
      go_wp2_with fail
      refine CD.out.mono ?_
      rintro e W7 ⟨rfl, K7⟩
      have HK7 := hidp (HK6.out.trans K7)
      clear CD K7
      go_wp2_with fail
      refine (awake_any W7).mono ?_
      rintro e W8 ⟨rfl, K8⟩
      have HF := hidp (HK7.out.trans K8)
      clear K8
      go_wp2_with fail
      go_ret
      exact ⟨rfl, HF.out⟩
    case first =>
      by_cases hcut : 0 ≤ cut ∧ cut < cs.length
      · have c1 : decide (0 ≤ cut) = true := decide_eq_true hcut.1
        have c2 : decide (cut < (cs.length : Int)) = true := decide_eq_true hcut.2
        obtain ⟨k, rfl⟩ := Int.eq_ofNat_of_zero_le hcut.1
        have hkl : k ≤ cs.length := by omega
        have c3 : decide (k < cs.length) = true := decide_eq_true (by omega)
        have hsl := run_upto wc g cs.length gc k hkl hcg
        have htk := BS.take HCB.out.1 k
        have hck : (cs.take k).length = k := by rw [List.length_take]; omega
        obtain ⟨ck, hcke⟩ : ∃ ck, ck = cs.take k := ⟨_, rfl⟩
        rw [← hcke] at htk hck
        subst hck
        have HTK := hidp htk
        clear hcut htk hcke
        go_wp2
        go_meet
        case rel => exact ⟨ck, rfl, by omega, by omega, HTK.out, HCB.out.2.1, HCB.out.2.2⟩
      · by_cases hcut0 : 0 ≤ cut
        · have c1 : decide (0 ≤ cut) = true := decide_eq_true hcut0
          have c2 : decide (cut < (cs.length : Int)) = false := decide_eq_false (by omega)
          clear hcut
          go_wp2
          go_meet
          case rel => exact ⟨cs, rfl, hcg, hcm, HCB.out.1, HCB.out.2.1, HCB.out.2.2⟩
        · have c1 : decide (0 ≤ cut) = false := decide_eq_false hcut0
          clear hcut
          go_wp2
          go_meet
          case rel => exact ⟨cs, rfl, hcg, hcm, HCB.out.1, HCB.out.2.1, HCB.out.2.2⟩
  case first =>
    by_cases h0 : wl.length = 0
    · have z0 : decide (0 < wl.length) = false := decide_eq_false (by omega)
      have z0' : decide ((0 : Int) < wl.length) = false := decide_eq_false (by omega)
      have HC := hidp (And.intro (own_bs HR.out.1 HW.out.1.2.1 (by omega)).1 (And.intro (HW.out.2.trans HR.out.2.1) (HW.out.1.keep HR.out.2.1)))
      go_wp2
      go_meet
      case rel => exact ⟨wl, rfl, hgc, hwl, HC.out.1, HC.out.2.1, HC.out.2.2⟩
    · have z0 : decide (0 < wl.length) = true := decide_eq_true (by omega)
      have z0' : decide ((0 : Int) < wl.length) = true := decide_eq_true (by omega)
      have hwpos : 0 < wl.length := by omega
      have hwne : ¬ (wl.length : Int) = 0 := by omega
      obtain ⟨p1, p2, p3, p4⟩ := atN_lt at_ hwpos
      obtain ⟨i, hi⟩ : ∃ i, i = atN at_ wl.length := ⟨_, rfl⟩
      rw [← hi] at p1 p2
      have p5 : IntKind.i64.wrap (at_.tmod wl.length + wl.length) = at_.tmod wl.length + wl.length := IntWalk.i64_in _ (by omega)
      have p6 : ((0 : Int) ≤ (i : Int)) := by omega
      have p7 : ((i : Int) < wl.length) := by omega
      have hc0 : W2.cell? ⟨g, i, none⟩ = some (.int .u8 (wl[i] : Nat)) := by
        rw [HR.out.1.cellAt i (by omega)]; exact byts_at p1
      have hf0 := own_free HR.out.1 i
      have hb8 : wl[i] < 256 := HW.out.1.2.1 _ (List.getElem_mem p1)
      have hxor := u8_xor_nat wl[i] x hb8 hx
      have hrow2 := own_set HR.out.1 i (.int .u8 ((wl[i] ^^^ x : Nat) : Int))
      rw [← byts_set] at hrow2
      obtain ⟨cs, hcs⟩ : ∃ cs, cs = wl.set i (wl[i] ^^^ x) := ⟨_, rfl⟩
      rw [← hcs] at hrow2
      have hcsb : ∀ y ∈ cs, y < 256 := by
        intro y hy
        rw [hcs] at hy
        rcases List.mem_or_eq_of_mem_set hy with hy | rfl
        · exact HW.out.1.2.1 y hy
        · exact Nat.xor_lt_two_pow (n := 8) hb8 hx
      have hbc := own_bs hrow2 hcsb (by omega)
      have hgge := HR.out.2.2
      have hsz1 := HW.out.2.size
      have KK : Keeps (fun _ => False) w (W2.setCell ⟨g, i, none⟩ (.int .u8 ((wl[i] ^^^ x : Nat) : Int))) := (HW.out.2.trans HR.out.2.1).setCell (p := ⟨g, i, none⟩) (.inr (by show w.heap.size ≤ g; omega)) _
      have K12 : Keeps (fun _ => False) W1 (W2.setCell ⟨g, i, none⟩ (.int .u8 ((wl[i] ^^^ x : Nat) : Int))) := HR.out.2.1.setCell (p := ⟨g, i, none⟩) (.inr (by show W1.heap.size ≤ g; omega)) _
      have HCC := hidp (And.intro hbc.1 (And.intro KK (And.intro hbc.2 (HW.out.1.keep K12))))
      obtain ⟨y, hy⟩ : ∃ y, y = wl[i] := ⟨_, rfl⟩
      rw [← hy] at hc0 hxor HCC
      clear hrow2 hcs hcsb hbc hgge hsz1 KK K12 hb8 hy hi
      go_wp2
      go_meet
      case rel => exact ⟨cs, by rw [HCC.out.2.2.1], by rw [HCC.out.2.2.1]; exact hgc, by rw [HCC.out.2.2.1]; exact hwl, HCC.out.1, HCC.out.2.1, HCC.out.2.2.2⟩
end Go.Proofs.Ytgebjmcdebdbmaa
