/- The walk of RidgeMeets. -/
import Derived.Test.YtkiaboaeflbmoaaRef
import Derived.Deep.QuietTactic
import Derived.BigQuiet
namespace Go.Proofs.Ytkiaboaeflbmoaa
open Go.RowKit Go.Pairs

def encp (p : Int × Int) : Value × Value := (.int .i64 p.1, .int .i64 p.2)

theorem look_enc (k : Int) : ∀ (L : List (Int × Int)) (i : Nat), (pAt veq (.int .i64 k) (L.map encp) i).map (·.2) = (rFind k L).map (Value.int .i64)
  | [], _ => rfl
  | p :: L, i => by
    have e : veq (.int .i64 k) (encp p).1 = (p.1 == k) := by simp [veq, encp, BEq.comm]
    simp only [List.map_cons, pAt, e, rFind, List.find?_cons]
    cases p.1 == k with
    | true => rfl
    | false => exact look_enc k L (i + 1)

def Uniq (L : List (Int × Int)) : Prop := (L.map (·.1)).Nodup

theorem strike_enc (k : Int) : ∀ (L : List (Int × Int)), Uniq L → pStrike veq (.int .i64 k) (L.map encp) = (L.filter (fun p => p.1 != k)).map encp
  | [], _ => rfl
  | p :: L, h => by
    have e : veq (.int .i64 k) (encp p).1 = (p.1 == k) := by simp [veq, encp, BEq.comm]
    obtain ⟨h1, h2⟩ := List.nodup_cons.1 h
    have ih := strike_enc k L h2
    simp only [pStrike] at ih
    simp only [List.map_cons, pStrike, List.eraseP_cons, e, List.filter_cons, bne]
    cases hk : p.1 == k with
    | true =>
      simp
      have hk' : p.1 = k := by simpa using hk
      rw [List.filter_eq_self.2]
      intro q hq
      simp
      intro hqk
      exact h1 (List.mem_map.2 ⟨q, hq, by rw [hqk]; exact hk'.symm⟩)
    | false => simpa [bne] using ih

theorem uniq_filter {L : List (Int × Int)} (h : Uniq L) (k : Int) : Uniq (L.filter (fun p => p.1 != k)) := by
  unfold Uniq at h ⊢
  exact h.sublist ((List.filter_sublist).map _)

theorem uniq_snoc {L : List (Int × Int)} (h : Uniq L) {k : Int} (hn : rFind k L = none) (v : Int) : Uniq (L ++ [(k, v)]) := by
  unfold Uniq at h ⊢
  rw [List.map_append, List.nodup_append]
  refine ⟨h, by simp, fun a ha b hb => ?_⟩
  simp at hb
  subst hb
  rintro rfl
  obtain ⟨p, hp, hpk⟩ := List.mem_map.1 ha
  unfold rFind at hn
  simp only [Option.map_eq_none_iff, List.find?_eq_none] at hn
  have := hn p hp
  simp at this
  exact this hpk

theorem pLook_enc (k : Int) (L : List (Int × Int)) : pLook veq (.int .i64 k) (L.map encp) = (rFind k L).map (Value.int .i64) := look_enc k L 0

/-- both tables hold the same. -/
structure Same (w0 : World) (a b c B : Nat) (wr : World) (j m : Nat) (L : List (Int × Int)) (ao : Option Addr) (cap : Nat) : Prop where
  tab : Tab ok_i wr a b m (L.map encp)
  ref : RT wr c B m L ao cap
  uniq : Uniq L
  len : L.length ≤ j
  met : m ≤ j
  keeps : Keeps (fun _ => False) w0 wr
  ha : w0.heap.size ≤ a ∧ a < c
  hb : w0.heap.size ≤ b ∧ b < c
  hc : B = c + 1

theorem Same.step {w0 : World} {a b c B : Nat} {wr : World} {j m : Nat} {L : List (Int × Int)} {ao : Option Addr} {cap : Nat} (h : Same w0 a b c B wr j m L ao cap) (k v : Int) {e1 : Ending} {w1 : World}
    (M1 : Met ok_i (.int .i64 0) a b m (L.map encp) (.int .i64 k) (.int .i64 v) wr e1 w1) :
    ∃ (r : Int) (q : Bool), e1 = .returned (.tuple #[.int .i64 r, .bool q]) ∧ RT w1 c B m L ao cap ∧ Keeps (fun i => i = a ∨ i = b) wr w1 ∧
      ∀ e2 w2, RMet c B m L k v w1 e2 w2 → e2 = .returned (.tuple #[.int .i64 r, .bool q]) ∧ ∃ m' L' ao' cap', Same w0 a b c B w2 (j + 1) m' L' ao' cap' := by
  obtain ⟨T, R, hu, hl, hm, K, ⟨ha, ha'⟩, ⟨hb, hb'⟩, hc⟩ := h
  unfold Met at M1
  rw [pLook_enc] at M1
  have hcase : Keeps (fun i => i = a ∨ i = b) wr w1 := by
    cases hf : rFind k L <;> simp only [hf, Option.map_some, Option.map_none] at M1 <;> exact M1.2.2
  have R1 : RT w1 c B m L ao cap := R.keep hcase (by omega) (by intro k hk; omega)
  have fin : ∀ w2, Keeps (fun i => i = c ∨ B ≤ i) w1 w2 → Keeps (fun _ => False) w0 w2 := fun w2 h2 =>
    (K.then_ hcase (fun i hi h => by omega)).then_ h2 (fun i hi h => by omega)
  cases hf : rFind k L with
  | some x =>
    simp only [hf, Option.map_some] at M1
    obtain ⟨rfl, T1, K1⟩ := M1
    refine ⟨x, true, rfl, R1, K1, fun e2 w2 M2 => ?_⟩
    unfold RMet at M2
    simp only [hf] at M2
    obtain ⟨rfl, ⟨ao', cap', R2⟩, K2⟩ := M2
    rw [strike_enc k L hu] at T1
    exact ⟨rfl, m + 1, _, ao', cap', T1.keep K2 (by omega) (by omega), R2, uniq_filter hu k, Nat.le_trans (List.length_filter_le _ _) (by omega), by omega, fin _ K2, ⟨ha, ha'⟩, ⟨hb, hb'⟩, hc⟩
  | none =>
    simp only [hf, Option.map_none] at M1
    obtain ⟨rfl, T1, K1⟩ := M1
    refine ⟨0, false, rfl, R1, K1, fun e2 w2 M2 => ?_⟩
    unfold RMet at M2
    simp only [hf] at M2
    obtain ⟨rfl, ⟨ao', cap', R2⟩, K2⟩ := M2
    have T1' : Tab ok_i w1 a b m ((L ++ [(k, v)]).map encp) := by simpa [encp] using T1
    exact ⟨rfl, m, _, ao', cap', T1'.keep K2 (by omega) (by omega), R2, uniq_snoc hu hf v, by simp; omega, by omega, fin _ K2, ⟨ha, ha'⟩, ⟨hb, hb'⟩, hc⟩

theorem Same.drewN {w0 : World} {a b c B : Nat} {wr : World} {j m : Nat} {L : List (Int × Int)} {ao : Option Addr} {cap : Nat} (h : Same w0 a b c B wr j m L ao cap) (n : Nat) : Same w0 a b c B (wr.drewN n) j m L ao cap := by
  have K := keeps_drewN (Keeps.refl (fun _ => False) wr) n
  exact ⟨h.tab.keep K (by simp) (by simp), h.ref.keep K (by simp) (by simp), h.uniq, h.len, h.met, keeps_drewN h.keeps n, h.ha, h.hb, h.hc⟩

set_option maxRecDepth 100000 in
set_option maxHeartbeats 1000000 in
theorem ridgeMeets_walk (w : World) (V1 : Value) (n1 : Nat) (Z1 : Nat → Int) (h1 : IsInts .i64 w V1 n1 Z1) (V2 : Value) (n2 : Nat) (Z2 : Nat → Int) (h2 : IsInts .i64 w V2 n2 Z2) :
    Calls Try.prog 5 #[V1, V2] w fun e w' => e = .returned (.bool true) ∧ Below w.heap.size w w' := by
  obtain ⟨ao1, cap1, rfl, hm1⟩ : ∃ ao cap, V1 = .slice ao n1 cap ∧ n1 ≤ maxLen := by
    rcases h1 with ⟨rfl, rfl⟩ | ⟨b, off, s, cap, rfl, h1, h2, -⟩
    · exact ⟨none, 0, rfl, by simp⟩
    · exact ⟨_, cap, rfl, by omega⟩
  obtain ⟨ao2, cap2, rfl, hm2⟩ : ∃ ao cap, V2 = .slice ao n2 cap ∧ n2 ≤ maxLen := by
    rcases h2 with ⟨rfl, rfl⟩ | ⟨b, off, s, cap, rfl, h1, h2, -⟩
    · exact ⟨none, 0, rfl, by simp⟩
    · exact ⟨_, cap, rfl, by omega⟩
  unfold maxLen at hm1 hm2
  have HH1 := hidp h1
  have HH2 := hidp h2
  clear h1 h2
  go_enter Try.func5, Try.ntmps5
  go_wp2_with fail
  refine (new_i _).mono ?_
  rintro e w1 ⟨a, b, rfl, T, ha, hb, K1⟩
  have ha2 : a < w1.heap.size := lt_of_cell T.c0
  have hb2 : b < w1.heap.size := T.has.lt
  have Kb : Keeps (fun _ => False) w1 (w1.alloc (.cells #[.slice none 0 0, .int .i64 0] 40)) := (Keeps.refl _ _).alloc _
  have R0 : RT (w1.alloc (.cells #[.slice none 0 0, .int .i64 0] 40)) w1.heap.size (w1.heap.size + 1) 0 [] none 0 :=
    ⟨heap_alloc_new _ _, World.ownsRow_nil _ _ _ _, by omega, by simp⟩
  have S0 : Same w a b w1.heap.size (w1.heap.size + 1) (w1.alloc (.cells #[.slice none 0 0, .int .i64 0] 40)) 0 0 [] none 0 :=
    ⟨T.keep Kb (by simp) (by simp), R0, by simp [Uniq], by simp, by omega, K1.trans Kb, ⟨ha, ha2⟩, ⟨hb, hb2⟩, rfl⟩
  obtain ⟨c, hc⟩ : ∃ c, w1.heap.size = c := ⟨_, rfl⟩
  rw [hc] at S0
  have HC := hidp hc
  clear T ha hb K1 ha2 hb2 Kb R0 hc
  go_wp2_with fail
  refine (awake_any _).mono ?_
  rintro e w3 ⟨rfl, K3⟩
  have S1 : Same w a b c (c + 1) w3 0 0 [] none 0 :=
    ⟨S0.tab.keep K3 (by simp) (by simp), S0.ref.keep K3 (by simp) (by simp), S0.uniq, S0.len, S0.met, S0.keeps.trans K3, S0.ha, S0.hb, S0.hc⟩
  rw [HC.out]
  clear S0 K3
  go_wp2_with fail
  go_loopw [7] (fun i wr => ∃ (j m : Nat) (L : List (Int × Int)) (ao : Option Addr) (cap : Nat), j ≤ n1 ∧ j ≤ n2 ∧ j ≤ 150 ∧ i = .int .i64 j ∧ Same w a b c (c + 1) wr j m L ao cap) (fun i _ => 150 - (intOf i).toNat)
  case atStart => exact ⟨0, 0, [], none, 0, by omega, by omega, by omega, rfl, S1⟩
  case round =>
    obtain ⟨j, m, L, ao, cap, hj1, hj2, hj3, rfl, SS⟩ := hrel
    clear S1
    by_cases hlt : j < n1 ∧ j < n2 ∧ j < 150
    · obtain ⟨hl1, hl2, hl3⟩ := hlt
      have KK := SS.keeps
      obtain ⟨bo1, off1, rfl, x1⟩ : ∃ b off, ao1 = some ⟨b, off, none⟩ ∧ w.cell? ⟨b, off + j, none⟩ = some (.int .i64 (Z1 j)) := by
        rcases HH1.out with ⟨-, rfl⟩ | ⟨bo, off, sp, cap', hv, hl, hm, hs, hel⟩
        · omega
        obtain ⟨rfl, -, rfl⟩ : ao1 = some ⟨bo, off, sp⟩ ∧ n1 = n1 ∧ cap1 = cap' := by simpa using hv
        obtain rfl := hs (by omega)
        exact ⟨_, _, rfl, (hel j hl1).1⟩
      obtain ⟨bo2, off2, rfl, x2⟩ : ∃ b off, ao2 = some ⟨b, off, none⟩ ∧ w.cell? ⟨b, off + j, none⟩ = some (.int .i64 (Z2 j)) := by
        rcases HH2.out with ⟨-, rfl⟩ | ⟨bo, off, sp, cap', hv, hl, hm, hs, hel⟩
        · omega
        obtain ⟨rfl, -, rfl⟩ : ao2 = some ⟨bo, off, sp⟩ ∧ n2 = n2 ∧ cap2 = cap' := by simpa using hv
        obtain rfl := hs (by omega)
        exact ⟨_, _, rfl, (hel j hl2).1⟩
      obtain ⟨k, hk⟩ : ∃ k, Z1 j = k := ⟨_, rfl⟩
      obtain ⟨v, hv⟩ : ∃ v, Z2 j = v := ⟨_, rfl⟩
      rw [hk] at x1
      rw [hv] at x2
      have y1 := KK.cell x1 (by simp)
      have y2 := KK.cell x2 (by simp)
      clear hk hv KK
      go_wp2_with fail
      refine (parked_i SS.tab ⟨k, rfl⟩).mono ?_
      rw [pLook_enc]
      rintro e w' ⟨rfl, rfl⟩
      have e1 : ((rFind k L).map (Value.int .i64)).getD (.int .i64 0) = .int .i64 ((rFind k L).getD 0) := by cases rFind k L <;> rfl
      rw [e1, Option.isSome_map]
      clear e1
      go_wp2_with fail
      have hL := SS.len
      have hM := SS.met
      refine (rparked SS.ref (by omega) k).mono ?_
      rintro e w' ⟨rfl, rfl⟩
      generalize (rFind k L).getD 0 = r0
      generalize (rFind k L).isSome = q0
      go_wp2_with fail
      refine (meet_i SS.tab (by omega) ⟨k, rfl⟩ (.int .i64 v)).mono ?_
      intro e w4 M1
      obtain ⟨r, q, rfl, R4, K4, hstep⟩ := SS.step k v M1
      have z2 : w4.cell? ⟨bo2, off2 + j, none⟩ = some (.int .i64 v) := by
        have h1 := lt_of_cell x2
        have h2 := SS.ha.1
        have h3 := SS.hb.1
        refine K4.cell y2 ?_
        simp only at h1 ⊢
        omega
      clear x1 x2 y1 y2 M1 SS
      go_wp2_with fail
      refine (rmeet R4 (by omega) (by omega) k v).mono ?_
      intro e w5 M2
      obtain ⟨rfl, m', L', ao', cap', S5⟩ := hstep _ _ M2
      have c0 := S5.ref.c0
      have c1 := S5.ref.c1
      clear hstep M2 R4 K4 z2
      go_wp2_with fail
      have hlen := fun n => (len_i (S5.drewN n).tab).mono fun e w' (h : e = _ ∧ _) => (⟨by rw [h.1, List.length_map], h.2.symm⟩ : e = .returned (.int .i64 L'.length) ∧ w' = w5.drewN n)
      have hmet := fun n => (met_i (S5.drewN n).tab).mono fun e w' (h : e = _ ∧ _) => (⟨h.1, h.2.symm⟩ : e = .returned (.int .i64 m') ∧ w' = w5.drewN n)
      go_quiet (first | (go_at_call 18; exact Calls.quiet_of_same (hlen _)) | (go_at_call 19; exact Calls.quiet_of_same (hmet _)))
      have S6 := S5.drewN nq
      clear hlen hmet c0 c1 S5
      go_wp2_with fail
      go_roundw
      case rel => exact ⟨j + 1, m', L', ao', cap', by omega, by omega, by omega, by go_num, S6⟩
      case measure => simp [intOf]; omega
    · have hK := below_of SS.keeps
      have HK := hidp hK
      clear SS hK
      rcases (show n1 ≤ j ∨ (j < n1 ∧ n2 ≤ j) ∨ (j < n1 ∧ j < n2 ∧ 150 ≤ j) by omega) with h | ⟨h, h'⟩ | ⟨h, h', h''⟩
      all_goals
        go_wp2_with fail
        go_ret
        exact ⟨rfl, HK.out⟩
end Go.Proofs.Ytkiaboaeflbmoaa
