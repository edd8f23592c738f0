/- PackBack: the walk. -/
import Derived.Test.YtgebjmcdebdbmaaReadsW
namespace Go.Proofs.Ytgebjmcdebdbmaa
open Go.RowKit Go.Pairs

theorem okl_write {ps : List P3} (h : chk ps = 0) : okL (writeV ps) = ps ∧ errN (writeV ps) = 0 := by
  have := ok_write h
  unfold okL errN
  rw [this]
  exact ⟨rfl, rfl⟩

set_option maxRecDepth 100000 in
set_option maxHeartbeats 8000000 in
theorem back_yes (w : World) (pa qa so : Option Addr) (pc qc cap : Nat) (ps qs : List P3) (n : Nat) (ms : List Nat) (hn : n < 18446744073709551616) (hp : PT w pa ps) (hq : PT w qa qs) (h : BS w so ms) :
    Calls Try.prog 6 #[.slice pa ps.length pc, .slice qa qs.length qc, .int .u64 n, .slice so ms.length cap] w fun e w' => e = .returned (.bool true) ∧ Keeps (fun _ => False) w w' := by
  have HB := hidp h
  have HP := hidp hp
  have HQ := hidp hq
  have C1 := hidp (write_walk w pa pc ps hp)
  clear h hp hq
  go_enter Try.func6, Try.ntmps6
  by_cases hl : 512 < ps.length
  · have t1 : decide (512 < ps.length) = true := by simpa using hl
    have t1' : decide ((512 : Int) < ps.length) = true := by simp; omega
    clear C1
    go_wp2_with fail
    refine (awake_any w).mono ?_
    rintro e W1 ⟨rfl, K1⟩
    have HK := hidp K1
    clear K1
    go_wp2_with fail
    go_ret
    exact ⟨rfl, HK.out⟩
  have t1 : decide (512 < ps.length) = false := by simpa using hl
  have t1' : decide ((512 : Int) < ps.length) = false := by simp; omega
  by_cases hl2 : 100 < ms.length
  · have t2 : decide (100 < ms.length) = true := by simpa using hl2
    have t2' : decide ((100 : Int) < ms.length) = true := by simp; omega
    clear C1
    go_wp2_with fail
    refine (awake_any w).mono ?_
    rintro e W1 ⟨rfl, K1⟩
    have HK := hidp K1
    clear K1
    go_wp2_with fail
    go_ret
    exact ⟨rfl, HK.out⟩
  have t2 : decide (100 < ms.length) = false := by simpa using hl2
  have t2' : decide ((100 : Int) < ms.length) = false := by simp; omega
  go_wp2_with fail
  refine C1.out.mono ?_
  rintro e W1 ⟨⟨oa, oc, rfl, hbs, hwl, -, hwc⟩, K1⟩
  have C2 := hidp (write_walk W1 qa qc qs (HQ.out.keep K1))
  have HW := hidp (And.intro hbs K1)
  clear hbs K1 C1
  go_wp2_with fail
  refine C2.out.mono ?_
  rintro e W2 ⟨⟨ra, rc, rfl, hbr, hrl, -, hrc⟩, K2⟩
  have HR := hidp (And.intro (HW.out.1.keep K2) (And.intro hbr (HW.out.2.trans K2)))
  clear hbr K2 C2 HW t1 t1' t2 t2'
  obtain ⟨wl, hwe⟩ : ∃ x, x = (writeV ps).length := ⟨_, rfl⟩
  obtain ⟨wr, hre⟩ : ∃ x, x = (writeV qs).length := ⟨_, rfl⟩
  obtain ⟨e1, he1⟩ : ∃ x, x = chk ps := ⟨_, rfl⟩
  obtain ⟨e2, he2⟩ : ∃ x, x = chk qs := ⟨_, rfl⟩
  rw [← hwe, ← hre, ← he1, ← he2]
  have HWE := hidp (And.intro hwe (And.intro hre (And.intro he1 he2)))
  rw [← hwe] at hwl hwc
  rw [← hre] at hrl hrc
  clear hwe hre he1 he2
  go_upto_if 39 with (fail)
  go_cut [] from 19 (fun W => Keeps (fun _ => False) w W)
  case rest =>
    rename_i hk
    refine hk _ _ ?_
    have HK := hidp hcut
    clear hcut HR HWE
    go_wp2_with fail
    refine (uint_walk _ n hn).mono ?_
    rintro e W4 ⟨⟨ua, uc, rfl, hu, -⟩, K4⟩
    have hlu := uintN_len10 hn
    have hpu := uintN_pos n
    obtain ⟨us, hus⟩ : ∃ us, us = uintN n := ⟨_, rfl⟩
    rw [← hus] at hu hlu hpu ⊢
    have HU := hidp (And.intro hu (HK.out.trans K4))
    have HUS := hidp hus
    have KA : Keeps (fun _ => False) W4 (W4.alloc (.cells #[] 5)) := (Keeps.refl _ _).alloc _
    have hrowA : (W4.alloc (.cells #[] 5)).ownsRow W4.heap.size 5 1 (.slice (some ⟨W4.heap.size, 0, none⟩) 0 0) 0 (byts []) := World.ownsRow_lit W4 #[] 0 (Nat.le_refl _) (by unfold maxLen; omega) rfl
    have HA := hidp (And.intro hrowA KA)
    clear hu K4 hus KA hrowA HK
    go_wp2_with (at_builtin; refine wpList_app_w (by rfl) _ _ rfl W4.heap.size (.slice (some ⟨W4.heap.size, 0, none⟩) 0 0) [] us rfl HA.out.1 ua uc rfl (HU.out.1.keep HA.out.2) (by simp; omega) HA.out.2.size ?_)
    intro v5 W5 hown5 hgr5 hloc5
    have K5 : Keeps (fun _ => False) W4 W5 := HA.out.2.then_ ((Keeps.refl (fun k => some k = (Value.slice (some ⟨W4.heap.size, 0, none⟩) 0 0).ownBlock) (W4.alloc (.cells #[] 5))).grown hgr5 (fun k e => .inl e.symm)) (fun i hi e => by simp [Value.ownBlock] at e; omega)
    have hrow5 : W5.ownsRow W4.heap.size 5 1 v5 us.length (byts us) := by simpa [byts] using hown5
    have hm5 := HB.out.keep (HU.out.2.trans K5)
    have HX := hidp (And.intro hrow5 (And.intro hm5 K5))
    obtain ⟨va, vc, rfl, hvc⟩ := own_shape hrow5
    clear hown5 hgr5 hloc5 K5 hrow5 hm5 HA
    go_wp2_with (at_builtin; refine wpList_app_w (by rfl) _ _ rfl W4.heap.size (.slice va us.length vc) us ms rfl HX.out.1 so cap rfl HX.out.2.1 (by omega) HX.out.2.2.size ?_)
    intro v6 W6 hown6 hgr6 hloc6
    have K6 : Keeps (fun _ => False) W4 W6 := HX.out.2.2.then_ ((Keeps.refl (fun k => some k = (Value.slice va us.length vc).ownBlock) W5).grown hgr6 (fun k e => .inl e.symm)) (fun i hi e => by have := own_ge HX.out.1 i e; omega)
    rw [← byts_app] at hown6
    have hl6 : us.length + ms.length = (us ++ ms).length := by simp
    rw [hl6] at hown6
    obtain ⟨vd, ve, rfl, hve⟩ := own_shape hown6
    have hb6 : BS W6 vd (us ++ ms) := bs_own hown6 (by intro y hy; rcases List.mem_append.1 hy with hy | hy; · exact HU.out.1.2.1 y hy
                                                       · exact HB.out.2.1 y hy) (by simp; omega)
    have CT0 := take_walk W6 vd ve (us ++ ms) hb6
    have htk : takeN (us ++ ms) = some (n, us.length) := by rw [HUS.out]; exact takeN_uint hn ms
    rw [htk] at CT0
    have CT := hidp CT0
    have HK6 := hidp (HU.out.2.trans K6)
    obtain ⟨ql, hql⟩ : ∃ ql, ql = (us ++ ms).length := ⟨_, rfl⟩
    rw [← hql] at CT ⊢
    clear hown6 hgr6 hloc6 K6 hl6 hb6 HX hql hve CT0 htk HU
    go_wp2_with fail
    refine CT.out.mono ?_
    rintro e W7 ⟨rfl, rfl⟩
    simp only [takeV]
    obtain ⟨ul, hul⟩ : ∃ x, x = us.length := ⟨_, rfl⟩
    rw [← hul] at hlu hpu ⊢
    have g1 : decide (1 ≤ ul) = true := decide_eq_true hpu
    have g1' : decide ((1 : Int) ≤ ul) = true := decide_eq_true (by omega)
    have g2 : decide (ul ≤ 10) = true := decide_eq_true hlu
    have g2' : decide ((ul : Int) ≤ 10) = true := decide_eq_true (by omega)
    clear CT hul
    go_wp2_with fail
    refine (awake_any W7).mono ?_
    rintro e W8 ⟨rfl, K8⟩
    have HF := hidp (HK6.out.trans K8)
    clear K8
    go_wp2_with fail
    go_ret
    exact ⟨rfl, HF.out⟩
  case first =>
    by_cases hc : e1 = 0
    · subst hc
      have hc0 := HWE.out.2.2.1.symm
      obtain ⟨ho1, ho2⟩ := okl_write hc0
      have CR0 := rd_walk W2 oa oc (writeV ps) HR.out.1 (by rw [← HWE.out.1]; exact hwc)
      rw [← HWE.out.1] at CR0
      have CR := hidp CR0
      clear CR0
      have HO := hidp (And.intro ho1 ho2)
      clear ho1 ho2 hc0
      go_wp2_with fail
      refine CR.out.mono ?_
      rintro e W3 ⟨⟨xa, xc, rfl, hxp, -⟩, K3⟩
      rw [HO.out.1, HO.out.2]
      rw [HO.out.1] at hxp
      have CP0 := points_walk W3 xa pa xc pc ps ps hxp ((HP.out.keep HR.out.2.2).keep K3)
      rw [decide_eq_true (rfl : ps = ps)] at CP0
      have CP := hidp CP0
      have HK3 := hidp (HR.out.2.2.trans K3)
      have HBB := hidp (And.intro (HR.out.1.keep K3) (HR.out.2.1.keep K3))
      clear CR CP0 hxp K3 HR HO
      go_wp2_with fail
      refine CP.out.mono ?_
      rintro e W4 ⟨rfl, K4⟩
      by_cases hq : e2 = 0
      · subst hq
        have hiff : decide (writeV ps = writeV qs) = decide (ps = qs) := by
          by_cases hh : ps = qs
          · subst hh; simp
          · rw [decide_eq_false hh, decide_eq_false (fun e => hh (write_inj HWE.out.2.2.1.symm HWE.out.2.2.2.symm e))]
        have CS0 := same_walk W4 oa ra oc rc (writeV ps) (writeV qs) (HBB.out.1.keep K4) (HBB.out.2.keep K4)
        rw [hiff, ← HWE.out.1, ← HWE.out.2.1] at CS0
        have CS := hidp CS0
        have CQ := hidp (points_walk W4 pa qa pc qc ps qs ((HP.out.keep HK3.out).keep K4) ((HQ.out.keep HK3.out).keep K4))
        have HK4 := hidp (HK3.out.trans K4)
        obtain ⟨dd, hdd⟩ : ∃ x, x = decide (ps = qs) := ⟨_, rfl⟩
        rw [← hdd] at CS CQ
        have tdd : (dd != dd) = false := by simp
        clear CP CS0 hiff K4 hdd HBB
        go_wp2_with fail
        refine CS.out.mono ?_
        rintro e W5 ⟨rfl, rfl⟩
        go_wp2_with fail
        refine CQ.out.mono ?_
        rintro e W6 ⟨rfl, K6⟩
        have HF := hidp (HK4.out.trans K6)
        clear K6 CQ CS
        go_wp2_with fail
        go_meet
        case rel => exact HF.out
      · have tq : (e2 == 0) = false := by simpa using hq
        have HF := hidp (HK3.out.trans K4)
        clear CP K4 hq
        go_wp2_with fail
        go_meet
        case rel => exact HF.out
    · have t3 : (e1 == 0) = false := by simpa using hc
      have HF := hidp HR.out.2.2
      clear hc
      go_wp2_with fail
      go_meet
      case rel => exact HF.out
end Go.Proofs.Ytgebjmcdebdbmaa
