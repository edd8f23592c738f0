/- PackTells: plain law of the turned bits, and the walk. -/
import Derived.Test.YtgebjmcdebdbmaaBackW
import Derived.StillTailTactics
namespace Go.Proofs.Ytgebjmcdebdbmaa
open Go.RowKit Go.Pairs

/-- what is turned after k rounds, room for M bits. -/
def pk (p M k : Nat) : Nat := p % 2 ^ (min k M)
theorem pk_zero (p M : Nat) : pk p M 0 = 0 := by simp [pk, Nat.mod_one]
theorem xor_top {a k : Nat} (h : a < 2 ^ k) : a ^^^ 2 ^ k = 2 ^ k + a := by
  have h1 := Nat.two_pow_add_eq_or_of_lt (i := k) (b := a) h 1
  rw [Nat.mul_one] at h1
  rw [h1]
  apply Nat.eq_of_testBit_eq
  intro j
  rw [Nat.testBit_xor, Nat.testBit_or]
  by_cases hj : k ≤ j
  · rw [Nat.testBit_lt_two_pow (Nat.lt_of_lt_of_le h (Nat.pow_le_pow_right (by omega) hj))]
    simp
  · have : (2 ^ k).testBit j = false := by rw [Nat.testBit_two_pow]; simp; omega
    rw [this]; simp
theorem pk_yes {p M k : Nat} (h : p / 2 ^ k % 2 = 1) (hk : k < M) : pk p M (k + 1) = pk p M k ^^^ 2 ^ k ∧ pk p M (k + 1) ≠ 0 := by
  unfold pk
  rw [Nat.min_eq_left (by omega), Nat.min_eq_left (by omega), Nat.pow_succ, Nat.mod_mul, h, xor_top (Nat.mod_lt _ (Nat.two_pow_pos k))]
  have := Nat.two_pow_pos k
  omega
theorem pk_no {p M k : Nat} (h : ¬ (p / 2 ^ k % 2 = 1 ∧ k < M)) : pk p M (k + 1) = pk p M k := by
  unfold pk
  by_cases hk : k < M
  · have h0 : p / 2 ^ k % 2 = 0 := by
      have := Nat.mod_two_eq_zero_or_one (p / 2 ^ k)
      omega
    rw [Nat.min_eq_left (by omega), Nat.min_eq_left (by omega), Nat.pow_succ, Nat.mod_mul, h0]
    omega
  · rw [Nat.min_eq_right (by omega), Nat.min_eq_right (by omega)]
theorem pk_lt {p M : Nat} (hp : p < 4294967296) (k : Nat) : pk p M k < 4294967296 := Nat.lt_of_le_of_lt (Nat.mod_le _ _) hp
/-- one bit turned. -/
theorem num_turn (bs : List Nat) (n : Nat) (h : n / 8 < bs.length) : num (bs.set (n / 8) (bs[n / 8] ^^^ 2 ^ (n % 8))) = num bs ^^^ 2 ^ n := by
  rw [num_set, ← Nat.pow_add, show n % 8 + 8 * (n / 8) = n by omega]
theorem num_round {bs cs : List Nat} {p M k s : Nat} (hn : num bs = num cs ^^^ (pk p M k * 2 ^ s)) (hb : p / 2 ^ k % 2 = 1) (hk : k < M) (h : (s + k) / 8 < bs.length) :
    num (bs.set ((s + k) / 8) (bs[(s + k) / 8] ^^^ 2 ^ ((s + k) % 8))) = num cs ^^^ (pk p M (k + 1) * 2 ^ s) := by
  rw [num_turn bs (s + k) h, hn, (pk_yes hb hk).1, xor_mul, ← Nat.pow_add, Nat.add_comm k s, Nat.xor_assoc]

set_option maxRecDepth 100000 in
set_option maxHeartbeats 8000000 in
theorem tells_yes (w : World) (pa : Option Addr) (pc : Nat) (ps : List P3) (at_ : Int) (p : Nat) (hp32 : p < 4294967296) (hp : PT w pa ps) :
    Calls Try.prog 7 #[.slice pa ps.length pc, .int .i64 at_, .int .u32 p] w fun e w' => e = .returned (.bool true) ∧ Keeps (fun _ => False) w w' := by
  have HP := hidp hp
  have hPl := hp.2
  have C1 := hidp (write_walk w pa pc ps hp)
  clear hp
  go_enter Try.func7, Try.ntmps7
  go_wp2_with fail
  refine C1.out.mono ?_
  rintro e W1 ⟨⟨oa, oc, rfl, hbs, hwl, -, hwc⟩, K1⟩
  have HW := hidp (And.intro hbs K1)
  clear hbs K1 C1
  by_cases hc : chk ps = 0
  · have hv : writeV ps = writeN ps := if_pos hc
    have h6 : 6 ≤ (writeV ps).length := by rw [hv]; exact write_len
    have HC := hidp hc
    rw [hc]
    obtain ⟨L, hL⟩ : ∃ L, L = (writeV ps).length := ⟨_, rfl⟩
    rw [← hL] at h6 hwl hwc ⊢
    have HL := hidp hL
    have g1 : decide (0 < L) = true := decide_eq_true (by omega)
    have g1' : decide ((0 : Int) < L) = true := decide_eq_true (by omega)
    have g2 : ((L : Int) == 0) = false := by simp; omega
    have g2' : (L == 0) = false := by simp; omega
    clear hc hv hL
    by_cases hl : 60 < ps.length
    · have t1 : decide (60 < ps.length) = true := by simpa using hl
      have t1' : decide ((60 : Int) < ps.length) = true := by simp; omega
      go_wp2_with fail
      refine (awake_any W1).mono ?_
      rintro e W2 ⟨rfl, K2⟩
      have HK := hidp (HW.out.2.trans K2)
      clear K2
      go_wp2_with fail
      go_ret
      exact ⟨rfl, HK.out⟩
    · have t1 : decide (60 < ps.length) = false := by simpa using hl
      have t1' : decide ((60 : Int) < ps.length) = false := by simp; omega
      have KA : Keeps (fun _ => False) W1 (W1.alloc (.cells #[] 5)) := (Keeps.refl _ _).alloc _
      have hrowA : (W1.alloc (.cells #[] 5)).ownsRow W1.heap.size 5 1 (.slice (some ⟨W1.heap.size, 0, none⟩) 0 0) 0 (byts []) := World.ownsRow_lit W1 #[] 0 (Nat.le_refl _) (by unfold maxLen; omega) rfl
      have HA := hidp (And.intro hrowA KA)
      clear KA hrowA
      have hAp : ∀ {ops : Array Oper} {rest : List Oper} {o : Oper} {a : Act} {Q : Exit → Act → World → Prop} (_ : o.guard = none) (s x : Operand) (_ : o.op = .call { callee := .builtin .append, args := #[s, x], argTypes := #[23, 23] }) (_ : a.eval s = .slice (some ⟨W1.heap.size, 0, none⟩) 0 0) (_ : a.eval x = .slice oa L oc)
          (_ : ∀ v' w', w'.ownsRow W1.heap.size 5 1 v' L (byts (writeV ps)) → (W1.alloc (.cells #[] 5)).grownBy w' (Value.slice (some ⟨W1.heap.size, 0, none⟩) 0 0).ownBlock → wpList Try.prog ops Q rest (a.put o.dst v') w'), wpList Try.prog ops Q (o :: rest) a (W1.alloc (.cells #[] 5)) := by
        intro ops rest o a Q hgd s x ho hs hx h
        refine wpList_app hgd s x ho W1.heap.size (.slice (some ⟨W1.heap.size, 0, none⟩) 0 0) [] (writeV ps) hs HA.out.1 oa oc (by rw [hx, HL.out]) (HW.out.1.keep HA.out.2) (by rw [← HL.out]; simp; omega) HA.out.2.size ?_
        intro v' w' h1 h2 _
        rw [← HL.out] at h1
        exact h v' w' (by simpa [byts] using h1) h2
      go_wp2_with (at_builtin; refine hAp rfl _ _ rfl rfl rfl ?_)
      intro v1 W2 hown1 hgr1
      have K2 : Keeps (fun _ => False) W1 W2 := HA.out.2.then_ ((Keeps.refl (fun k => some k = (Value.slice (some ⟨W1.heap.size, 0, none⟩) 0 0).ownBlock) (W1.alloc (.cells #[] 5))).grown hgr1 (fun k e => .inl e.symm)) (fun i hi e => by simp [Value.ownBlock] at e; omega)
      obtain ⟨g, gc, rfl, hgc, hgB⟩ : ∃ g gc, v1 = .slice (some ⟨g, 0, none⟩) L gc ∧ L ≤ gc ∧ W1.heap.size ≤ g := by
        rcases hown1.2 with ⟨h1, h2⟩ | ⟨g', cp, cur, h1, h2, -, h4, -⟩
        · omega
        · exact ⟨g', cp, h1, h4, h2⟩
      obtain ⟨E, hE⟩ : ∃ E, E = 8 * L := ⟨_, rfl⟩
      have hw8 : IntKind.i64.wrap (8 * (L : Int)) = (E : Int) := by rw [IntWalk.i64_in _ (by omega)]; omega
      obtain ⟨p1, p2, p3, p4⟩ := atN_lt at_ (n := E) (by omega)
      obtain ⟨s, hs⟩ : ∃ s, s = atN at_ E := ⟨_, rfl⟩
      rw [← hs] at p1 p2
      have p5 : IntKind.i64.wrap (at_.tmod E + E) = at_.tmod E + E := IntWalk.i64_in _ (by omega)
      have hE0 : ¬ (E : Int) = 0 := by omega
      have HG := hidp hgB
      have hW1 : w.heap.size ≤ W1.heap.size := HW.out.2.size
      have HS0 := hidp (And.intro hown1 (HW.out.2.trans K2))
      have HE := hidp hE
      have hEb : E ≤ 8000000 := by omega
      clear hown1 hgr1 K2 HA hAp hs hgB t1 t1' hl hE
      go_wp2
      go_loopw [11, 12] (fun tv kv wr => ∃ (k : Nat) (cs : List Nat), k ≤ 32 ∧ kv = .int .i64 k ∧ wr.ownsRow W1.heap.size 5 1 (.slice (some ⟨g, 0, none⟩) L gc) L (byts cs) ∧ Keeps (fun _ => False) w wr ∧ (∀ x ∈ cs, x < 256) ∧ num cs = num (writeV ps) ^^^ (pk p (E - s) k * 2 ^ s) ∧ tv = .bool (decide (pk p (E - s) k ≠ 0))) (fun _ kv _ => 32 - (intOf kv).toNat)
      case atStart => exact ⟨0, writeV ps, by omega, rfl, HS0.out.1, HS0.out.2, HW.out.1.2.1, by rw [pk_zero]; simp, by rw [pk_zero]; rfl⟩
      case round =>
        obtain ⟨k, cs, hk, rfl, hrow, hkp, hcb, hnum, rfl⟩ := hrel
        clear HS0
        obtain ⟨hbs, hcl⟩ := own_bs hrow hcb (by omega)
        obtain ⟨tb, htb⟩ : ∃ tb, tb = decide (pk p (E - s) k ≠ 0) := ⟨_, rfl⟩
        rw [← htb]
        have HT := hidp (And.intro hnum (And.intro htb (And.intro hcl (And.intro hcb hbs))))
        have HRW := hidp (And.intro hrow hkp)
        clear hnum htb hcl hcb hbs hrow hkp
        by_cases hlt : k < 32
        · have t4 : decide (k < 32) = true := decide_eq_true hlt
          have t4' : decide ((k : Int) < 32) = true := decide_eq_true (by omega)
          have hwk : IntKind.i64.wrap ((k : Int) + 1) = k + 1 := IntWalk.i64_in _ (by omega)
          have hws : IntKind.i64.wrap ((s : Int) + k) = ((s + k : Nat) : Int) := by rw [IntWalk.i64_in _ (by omega)]; omega
          obtain ⟨n, hn⟩ : ∃ n, n = s + k := ⟨_, rfl⟩
          rw [← hn] at hws
          have HN := hidp hn
          clear hn
          have hq8 : (n : Int).tdiv 8 = ((n / 8 : Nat) : Int) := by rw [Int.tdiv_eq_ediv_of_nonneg (by omega)]; omega
          have hr8 : (n : Int).tmod 8 = ((n % 8 : Nat) : Int) := by rw [Int.tmod_eq_emod_of_nonneg (by omega)]; omega
          have hand := b_and1 (p / 2 ^ k) (Nat.lt_of_le_of_lt (Nat.div_le_self _ _) hp32)
          rw [show ((p / 2 ^ k : Nat) : Int) = (p : Int) / 2 ^ k by simp] at hand
          by_cases hb : p / 2 ^ k % 2 = 1 ∧ n < E
          · have hb1 : (bits .and .u32 ((p : Int) / 2 ^ k) 1 == 1) = true := by rw [hand, hb.1]; rfl
            have hb2 : decide (n < E) = true := decide_eq_true hb.2
            have hb2' : decide ((n : Int) < E) = true := decide_eq_true (by omega)
            have HBB := hidp hb
            obtain ⟨j, hj⟩ : ∃ j, j = n / 8 := ⟨_, rfl⟩
            obtain ⟨m, hm⟩ : ∃ m, m = n % 8 := ⟨_, rfl⟩
            rw [← hj] at hq8
            rw [← hm] at hr8
            have hjL : j < L := by have := HE.out; omega
            have hj0 : (0 : Int) ≤ (j : Int) := by omega
            have hj1 : ((j : Int) < L) := by omega
            have hm8 : m < 8 := by omega
            have hjc : j < cs.length := by rw [HT.out.2.2.1]; exact hjL
            have hc0 : wr.cell? ⟨g, j, none⟩ = some (.int .u8 (cs[j] : Nat)) := by
              rw [HRW.out.1.cellAt j (by omega)]; exact byts_at hjc
            have hf0 := own_free HRW.out.1 j
            have hb8 : cs[j] < 256 := HT.out.2.2.2.1 _ (List.getElem_mem hjc)
            obtain ⟨c, hce⟩ : ∃ c, c = cs[j] := ⟨_, rfl⟩
            rw [← hce] at hc0 hb8
            have HJM := hidp (And.intro hj (And.intro hm hce))
            have hq8' : (n : Int) / 8 = (j : Int) := by omega
            have hr8' : (n : Int) % 8 = (m : Int) := by omega
            have wj : IntKind.i64.wrap (j : Int) = j := IntWalk.i64_in _ (by omega)
            have wm : IntKind.i64.wrap (m : Int) = m := IntWalk.i64_in _ (by omega)
            clear hb hand hj hm hce
            go_upto_region 12 with (fail)
            go_still_tail 10, (by kernel_rfl)
            change wpList _ _ _ _ _ wr.drew
            have h2m : 2 ^ m < 256 := by
              have : (2 : Nat) ^ m ≤ 2 ^ 7 := Nat.pow_le_pow_right (by decide) (by omega)
              omega
            have hxor : bits .xor .u8 (c : Int) ((2 : Int) ^ m % 256) = ((c ^^^ 2 ^ m : Nat) : Int) := by
              have e2 : (2 : Int) ^ m % 256 = ((2 ^ m : Nat) : Int) := by
                rw [show (2 : Int) ^ m = ((2 ^ m : Nat) : Int) by simp]
                obtain ⟨q, hq⟩ : ∃ q, q = 2 ^ m := ⟨_, rfl⟩
                rw [← hq] at h2m ⊢
                omega
              rw [e2]
              exact u8_xor_nat c (2 ^ m) hb8 h2m
            have hrow2 := own_set HRW.out.1 j (.int .u8 ((c ^^^ 2 ^ m : Nat) : Int))
            rw [← byts_set] at hrow2
            have hne : pk p (E - s) (k + 1) ≠ 0 := (pk_yes HBB.out.1 (by have := HBB.out.2; have := HN.out; omega)).2
            have hnu : num (cs.set j (c ^^^ 2 ^ m)) = num (writeV ps) ^^^ (pk p (E - s) (k + 1) * 2 ^ s) := by
              have hj' : (s + k) / 8 < cs.length := by rw [← HN.out, ← HJM.out.1]; exact hjc
              have := num_round HT.out.1 HBB.out.1 (by have := HBB.out.2; have := HN.out; omega) hj'
              have e1 : (s + k) / 8 = j := by rw [← HN.out, HJM.out.1]
              have e2 : (s + k) % 8 = m := by rw [← HN.out, HJM.out.2.1]
              rw [← this, e2, HJM.out.2.2]
              simp only [e1]
            have hcb2 : ∀ y ∈ cs.set j (c ^^^ 2 ^ m), y < 256 := by
              intro y hy
              rcases List.mem_or_eq_of_mem_set hy with hy | rfl
              · exact HT.out.2.2.2.1 y hy
              · exact Nat.xor_lt_two_pow (n := 8) hb8 h2m
            have KK : Keeps (fun _ => False) w (wr.setCell ⟨g, j, none⟩ (.int .u8 ((c ^^^ 2 ^ m : Nat) : Int))) := HRW.out.2.setCell (p := ⟨g, j, none⟩) (.inr (by have := HG.out; show w.heap.size ≤ g; omega)) _
            have HFIN := hidp (And.intro hrow2 (And.intro KK (And.intro hcb2 (And.intro hnu hne))))
            clear hrow2 KK hcb2 hnu hne h2m
            go_wp2
            try rw [hxor]
            refine ⟨⟨k + 1, cs.set j (c ^^^ 2 ^ m), by omega, rfl, keeps_row ((Keeps.refl (fun _ => False) _).drew) HFIN.out.1 (by simp), HFIN.out.2.1.drew, HFIN.out.2.2.1, HFIN.out.2.2.2.1, by rw [decide_eq_true HFIN.out.2.2.2.2]⟩, by simp [intOf]; omega⟩
          · have hpk := pk_no (p := p) (M := E - s) (k := k) (by have := HN.out; omega)
            have HPK := hidp hpk
            by_cases hb0 : p / 2 ^ k % 2 = 1
            · have hb1 : (bits .and .u32 ((p : Int) / 2 ^ k) 1 == 1) = true := by rw [hand, hb0]; rfl
              have hb2 : decide (n < E) = false := decide_eq_false (by omega)
              have hb2' : decide ((n : Int) < E) = false := decide_eq_false (by omega)
              clear hb hand hq8 hr8 hpk
              go_wp2
              exact ⟨⟨k + 1, cs, by omega, rfl, HRW.out.1, HRW.out.2, HT.out.2.2.2.1, by rw [HPK.out]; exact HT.out.1, by rw [HPK.out]; exact congrArg _ HT.out.2.1⟩, by simp [intOf]; omega⟩
            · have hb1 : (bits .and .u32 ((p : Int) / 2 ^ k) 1 == 1) = false := by rw [hand, show p / 2 ^ k % 2 = 0 by omega]; rfl
              clear hb hand hq8 hr8 hpk
              go_wp2
              exact ⟨⟨k + 1, cs, by omega, rfl, HRW.out.1, HRW.out.2, HT.out.2.2.2.1, by rw [HPK.out]; exact HT.out.1, by rw [HPK.out]; exact congrArg _ HT.out.2.1⟩, by simp [intOf]; omega⟩
        · obtain rfl : k = 32 := by omega
          have CR0 := rd_walk wr (some ⟨g, 0, none⟩) gc cs HT.out.2.2.2.2 (by rw [HT.out.2.2.1]; exact hgc)
          rw [HT.out.2.2.1] at CR0
          have CR := hidp CR0
          clear CR0
          go_wp2_with fail
          refine CR.out.mono ?_
          rintro e W5 ⟨⟨xa, xc, rfl, hxp, -⟩, K5⟩
          have HK5 := hidp (HRW.out.2.trans K5)
          by_cases hz : pk p (E - s) 32 = 0
          · have htf : tb = false := by rw [HT.out.2.1, hz]; rfl
            subst htf
            have hcs : cs = writeV ps := by
              refine num_inj _ _ (by rw [HT.out.2.2.1, HL.out]) HT.out.2.2.2.1 HW.out.1.2.1 ?_
              have := HT.out.1
              rw [hz] at this
              simpa using this
            obtain ⟨ho1, ho2⟩ := okl_write HC.out
            rw [hcs, ho1] at hxp
            rw [hcs, ho1, ho2]
            have CP0 := points_walk W5 xa pa xc pc ps ps hxp (HP.out.keep HK5.out)
            rw [decide_eq_true (rfl : ps = ps)] at CP0
            have CP := hidp CP0
            clear CR hxp K5 hz hcs ho1 ho2 CP0 HT HRW
            go_wp2_with fail
            refine CP.out.mono ?_
            rintro e W6 ⟨rfl, K6⟩
            have HK6 := hidp (HK5.out.trans K6)
            clear K6 CP
            go_wp2_with fail
            refine (awake_any W6).mono ?_
            rintro e W9 ⟨rfl, K9⟩
            have HF := hidp (HK6.out.trans K9)
            clear K9
            go_wp2_with fail
            go_ret
            exact ⟨rfl, HF.out⟩
          · have htf : tb = true := by rw [HT.out.2.1, decide_eq_true hz]
            subst htf
            have hno : okN cs = none := by
              have hcw : cs.length = (writeN ps).length := by rw [HT.out.2.2.1, HL.out, show writeV ps = writeN ps from if_pos HC.out]
              refine burst (s := s) hcw ?_ (pk_lt hp32 32) hz (by rw [HT.out.2.2.1]; have := HE.out; omega)
              have := HT.out.1
              rw [show writeV ps = writeN ps from if_pos HC.out] at this
              exact this
            have h0 : okL cs = [] := by unfold okL; rw [hno]; rfl
            have h1 : errN cs = 190 := by unfold errN; rw [hno]; rfl
            rw [h0, h1]
            clear CR hxp K5 hz hno h0 h1 HT HRW
            simp only [List.length_nil]
            go_wp2_with fail
            refine (awake_any W5).mono ?_
            rintro e W9 ⟨rfl, K9⟩
            have HF := hidp (HK5.out.trans K9)
            clear K9
            go_wp2_with fail
            go_ret
            exact ⟨rfl, HF.out⟩
  · have t1 : (chk ps != 0) = true := by simpa using hc
    obtain ⟨L, hL⟩ : ∃ L, L = (writeV ps).length := ⟨_, rfl⟩
    rw [← hL]
    clear hL hwl hwc
    by_cases hl : 60 < ps.length
    · have t2 : decide (60 < ps.length) = true := by simpa using hl
      have t2' : decide ((60 : Int) < ps.length) = true := by simp; omega
      go_wp2_with fail
      refine (awake_any W1).mono ?_
      rintro e W9 ⟨rfl, K9⟩
      have HF := hidp (HW.out.2.trans K9)
      clear K9
      go_wp2_with fail
      go_ret
      exact ⟨rfl, HF.out⟩
    · have t2 : decide (60 < ps.length) = false := by simpa using hl
      have t2' : decide ((60 : Int) < ps.length) = false := by simp; omega
      go_wp2_with fail
      refine (awake_any W1).mono ?_
      rintro e W9 ⟨rfl, K9⟩
      have HF := hidp (HW.out.2.trans K9)
      clear K9
      go_wp2_with fail
      go_ret
      exact ⟨rfl, HF.out⟩
end Go.Proofs.Ytgebjmcdebdbmaa
