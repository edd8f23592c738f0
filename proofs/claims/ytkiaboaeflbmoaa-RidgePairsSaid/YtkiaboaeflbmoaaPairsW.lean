/- The walk of RidgePairs. -/
import Derived.Test.YtkiaboaeflbmoaaShardsW
import Derived.Deep.QuietTactic
import Derived.BigQuiet
namespace Go.Proofs.Ytkiaboaeflbmoaa
open Go.RowKit Go.Pairs

theorem pAt_shift (k : Value) : ∀ (L : List (Value × Value)) (i j : Nat), (pAt veq k L i).map (·.2) = (pAt veq k L j).map (·.2)
  | [], _, _ => rfl
  | p :: L, i, j => by
    simp only [pAt]
    split
    · rfl
    · exact pAt_shift k L _ _

theorem look_cons_ne {k : Value} {p : Value × Value} (h : veq k p.1 = false) (R : List (Value × Value)) : pLook veq k (p :: R) = pLook veq k R := by
  simp only [pLook, pAt, h]
  exact pAt_shift k R _ _

theorem strike_cons_ne {k : Value} {p : Value × Value} (h : veq k p.1 = false) (R : List (Value × Value)) : pStrike veq k (p :: R) = p :: pStrike veq k R := by
  simp [pStrike, h]

theorem look_cons_eq {k : Value} {p : Value × Value} (h : veq k p.1 = true) (R : List (Value × Value)) : pLook veq k (p :: R) = some p.2 ∧ pStrike veq k (p :: R) = R := by
  simp [pLook, pAt, pStrike, h]

theorem look_none {k : Value} : ∀ {R : List (Value × Value)}, (∀ p ∈ R, veq k p.1 = false) → pLook veq k R = none
  | [], _ => rfl
  | p :: R, h => by rw [look_cons_ne (h p (by simp))]; exact look_none (fun q hq => h q (by simp [hq]))

theorem len_strike {k : Value} : ∀ {R : List (Value × Value)} {x : Value}, pLook veq k R = some x → (pStrike veq k R).length + 1 = R.length
  | [], _, h => by simp [pLook, pAt] at h
  | p :: R, x, h => by
    cases hp : veq k p.1 with
    | true => rw [(look_cons_eq hp R).2]; simp
    | false =>
      rw [look_cons_ne hp] at h
      rw [strike_cons_ne hp]
      have := len_strike h
      simp; omega

theorem veq_agg (x y u v : Int) : veq (.agg #[.int .i64 x, .int .i64 y]) (.agg #[.int .i64 u, .int .i64 v]) = (x == u && y == v) := rfl

theorem run_neq_agg (x y u v : Int) (w : World) : (binOp .neq 23 (.agg #[.int .i64 x, .int .i64 y]) (.agg #[.int .i64 u, .int .i64 v])).run Try.prog w = .ok (.bool (!(x == u && y == v))) w := by
  have h := key_e.eq w (.agg #[.int .i64 x, .int .i64 y]) (.agg #[.int .i64 u, .int .i64 v]) ⟨_, _, rfl⟩ ⟨_, _, rfl⟩
  rw [veq_agg] at h
  simp [binOp, h]

/-- what the table holds while the others meet. -/
def Mid (x y : Int) (s : Value) (w0 : World) (B a b : Nat) (wr : World) (j c : Nat) : Prop :=
  ∃ (m : Nat) (R : List (Value × Value)), Tab ok_e wr a b m ((.agg #[.int .i64 x, .int .i64 y], s) :: R) ∧ (∀ p ∈ R, veq (.agg #[.int .i64 x, .int .i64 y]) p.1 = false) ∧ 2 * m + R.length + 1 = c ∧ c ≤ j + 1 ∧
    Keeps (fun _ => False) w0 wr ∧ wr.cell? ⟨B, 0, none⟩ = some (.int .i64 x) ∧ wr.cell? ⟨B, 1, none⟩ = some (.int .i64 y) ∧ a ≠ B ∧ b ≠ B ∧ w0.heap.size ≤ a ∧ w0.heap.size ≤ b

theorem mid_meet {x y u v : Int} (hne : (u == x && v == y) = false) {s z : Value} {w0 : World} {B a b : Nat} {wr w1 : World} {m : Nat} {R : List (Value × Value)} {e : Ending} {zz : Value}
    (hR : ∀ p ∈ R, veq (.agg #[.int .i64 x, .int .i64 y]) p.1 = false) {j c : Nat} (hc : 2 * m + R.length + 1 = c) (hcj : c ≤ j + 1) (K : Keeps (fun _ => False) w0 wr) (e0 : wr.cell? ⟨B, 0, none⟩ = some (.int .i64 x)) (e1 : wr.cell? ⟨B, 1, none⟩ = some (.int .i64 y))
    (ha : a ≠ B) (hb : b ≠ B) (ha0 : w0.heap.size ≤ a) (hb0 : w0.heap.size ≤ b)
    (hM : Met ok_e zz a b m ((.agg #[.int .i64 x, .int .i64 y], s) :: R) (.agg #[.int .i64 u, .int .i64 v]) z wr e w1) :
    ∃ r, e = .returned r ∧ (∃ r1 r2, r = .tuple #[r1, r2]) ∧ Mid x y s w0 B a b w1 (j + 1) (c + 1) := by
  unfold Met at hM
  have h1 : veq (.agg #[.int .i64 u, .int .i64 v]) (.agg #[.int .i64 x, .int .i64 y]) = false := hne
  have h2 : veq (.agg #[.int .i64 x, .int .i64 y]) (.agg #[.int .i64 u, .int .i64 v]) = false := by
    rw [veq_agg]; rw [← hne, BEq.comm (a := x), BEq.comm (a := y)]
  rw [look_cons_ne h1] at hM
  have keep : ∀ (w1 : World), Keeps (fun i => i = a ∨ i = b) wr w1 → Keeps (fun _ => False) w0 w1 ∧ w1.cell? ⟨B, 0, none⟩ = some (.int .i64 x) ∧ w1.cell? ⟨B, 1, none⟩ = some (.int .i64 y) := fun w1 K1 =>
    ⟨K.then_ K1 (fun i hi h => by rcases h with h | h <;> omega), K1.cell e0 (by simp; omega), K1.cell e1 (by simp; omega)⟩
  cases hl : pLook veq (.agg #[.int .i64 u, .int .i64 v]) R with
  | some q =>
    simp only [hl] at hM
    obtain ⟨rfl, T, K1⟩ := hM
    rw [strike_cons_ne h1] at T
    obtain ⟨g1, g2, g3⟩ := keep _ K1
    have := len_strike hl
    exact ⟨_, rfl, ⟨_, _, rfl⟩, m + 1, _, T, fun p hp => hR p (List.mem_of_mem_eraseP hp), by omega, by omega, g1, g2, g3, ha, hb, ha0, hb0⟩
  | none =>
    simp only [hl] at hM
    obtain ⟨rfl, T, K1⟩ := hM
    obtain ⟨g1, g2, g3⟩ := keep _ K1
    refine ⟨_, rfl, ⟨_, _, rfl⟩, m, R ++ [(.agg #[.int .i64 u, .int .i64 v], z)], by simpa using T, fun p hp => ?_, by simp; omega, by omega, g1, g2, g3, ha, hb, ha0, hb0⟩
    rcases List.mem_append.1 hp with hp | hp
    · exact hR p hp
    · simp at hp; subst hp; exact h2

theorem ridgePairs_walk (w : World) (x y : Int) (_wx : (Lit.int .i64 x).wf = true) (_wy : (Lit.int .i64 y).wf = true) (V : Value) (len : Nat) (E : Nat → Int × Int) (hV : IsPairs w V len E) (s t : ByteArray) :
    Calls Try.prog 6 #[.agg #[.int .i64 x, .int .i64 y], V, .string s, .string t] w fun e w' => e = .returned (.bool true) ∧ Below w.heap.size w w' := by
  have K0 : Keeps (fun _ => False) w (w.alloc (.cells #[.int .i64 x, .int .i64 y] 23)) := (Keeps.refl _ _).alloc _
  obtain ⟨e0, e1⟩ := box2 w x y 23
  obtain ⟨ao, cap, rfl, hlm⟩ : ∃ ao cap, V = .slice ao len cap ∧ len ≤ maxLen := by
    rcases hV with ⟨rfl, rfl⟩ | ⟨b, off, s, cap, rfl, h1, h2, -⟩
    · exact ⟨none, 0, rfl, by simp⟩
    · exact ⟨_, cap, rfl, by omega⟩
  unfold maxLen at hlm
  by_cases h100 : 100 < len
  · go_enter Try.func6, Try.ntmps6
    go_wp2_with fail
    refine (new_e _).mono ?_
    rintro e w1 ⟨a, b, rfl, T, ha, hb, K1⟩
    have KK := K0.trans K1
    clear T e0 e1 K0 K1 hV
    go_wp2_with (go_at_call 9; refine (awake_any _).mono ?_; rintro e w3 ⟨rfl, K3⟩)
    go_ret
    exact ⟨rfl, below_of (KK.trans K3)⟩
  · have h100' : len ≤ 100 := by omega
    go_enter Try.func6, Try.ntmps6
    go_wp2_with fail
    refine (new_e _).mono ?_
    rintro e w1 ⟨a, b, rfl, T, ha, hb, K1⟩
    have ha' : w.heap.size + 1 ≤ a := by simpa using ha
    have hb' : w.heap.size + 1 ≤ b := by simpa using hb
    have KK := K0.trans K1
    have d0 := K1.cell e0 (by simp)
    have d1 := K1.cell e1 (by simp)
    clear e0 e1 K0 K1 ha hb
    go_wp2_with fail
    refine (meet_e T (by omega) x y _).mono ?_
    unfold Met
    rw [show pLook veq (.agg #[.int .i64 x, .int .i64 y]) [] = none from rfl]
    rintro e w2 ⟨rfl, T2, K2⟩
    have M0 : Mid x y (.string s) w w.heap.size a b w2 0 1 :=
      ⟨0, [], T2, by simp, by simp, by omega, KK.then_ K2 (fun i hi h => by rcases h with h | h <;> omega), K2.cell d0 (by simp; omega), K2.cell d1 (by simp; omega), by omega, by omega, by omega, by omega⟩
    clear T T2 d0 d1 K2 KK ha' hb'
    go_wp2_with fail
    go_loopw [12, 13] (fun n i wr => ∃ (j c : Nat), j ≤ len ∧ i = .int .i64 j ∧ n = .int .i64 c ∧ c ≤ j + 1 ∧ Mid x y (.string s) w w.heap.size a b wr j c) (fun _ i _ => len - (intOf i).toNat)
    case atStart => exact ⟨0, 1, by omega, rfl, rfl, by omega, M0⟩
    case round =>
      obtain ⟨j, c, hj, rfl, rfl, hcj, M⟩ := hrel
      clear M0
      obtain ⟨m, R, TT, hR, hc, -, KK, d0, d1, ha, hb, ha0, hb0⟩ := M
      by_cases hlt : j < len
      · rcases hV with ⟨-, rfl⟩ | ⟨bo, off, sp, cap', hv, hl, hm, hs, hel⟩
        · omega
        obtain ⟨rfl, -, rfl⟩ : ao = some ⟨bo, off, sp⟩ ∧ len = len ∧ cap = cap' := by simpa using hv
        obtain rfl := hs (by omega)
        obtain ⟨f0, f1⟩ := hel j hlt
        have f0' := KK.cell f0 (by simp)
        have f1' := KK.cell f1 (by simp)
        clear f0 f1 hv hel hs hm
        obtain ⟨u, hu⟩ : ∃ u, u = (E j).1 := ⟨_, rfl⟩
        obtain ⟨v, hv⟩ : ∃ v, v = (E j).2 := ⟨_, rfl⟩
        rw [← hu] at f0'
        rw [← hv] at f1'
        clear hu hv
        have hnq := run_neq_agg u v x y
        cases hq : (u == x && v == y) with
        | true =>
          rw [hq] at hnq
          simp only [Bool.not_true] at hnq
          clear hq
          go_wp2_with fail
          go_quiet (fail)
          go_wp2_with fail
          go_roundw
          case rel => exact ⟨j + 1, c, by omega, by go_num, rfl, by omega, m, R, TT.keep (keeps_drewN (Keeps.refl (fun _ => False) _) _) (by simp) (by simp), hR, hc, by omega, keeps_drewN KK _, d0, d1, ha, hb, ha0, hb0⟩
          case measure => simp [intOf]; omega
        | false =>
          rw [hq] at hnq
          simp only [Bool.not_false] at hnq
          have Hq := hidp hq
          clear hq
          go_wp2_with fail
          go_quiet (fail)
          go_wp2_with fail
          have TT2 : Tab ok_e (wr.drewN nq) a b m ((.agg #[.int .i64 x, .int .i64 y], .string s) :: R) := TT.keep (keeps_drewN (Keeps.refl (fun _ => False) _) _) (by simp) (by simp)
          refine (meet_e TT2 (by omega) u v _).mono ?_
          intro e w3 hM
          obtain ⟨r, rfl, ⟨r1, r2, rfl⟩, M3⟩ := mid_meet Hq.out hR hc hcj (keeps_drewN KK nq) d0 d1 ha hb ha0 hb0 hM
          clear TT TT2 KK d0 d1 f0' f1' hM hR hc Hq hnq
          go_wp2_with fail
          go_roundw
          case rel => exact ⟨j + 1, c + 1, by omega, by go_num, by go_num, by omega, M3⟩
          case measure => simp [intOf]; omega
      · obtain rfl : j = len := by omega
        have hself : veq (.agg #[.int .i64 x, .int .i64 y]) (.agg #[.int .i64 x, .int .i64 y]) = true := by simp [veq_agg]
        obtain ⟨hl1, hl2⟩ := look_cons_eq (p := (.agg #[.int .i64 x, .int .i64 y], .string s)) hself R
        have hl3 := look_none hR
        clear hV
        go_wp2_with fail
        refine (parked_e TT x y).mono ?_
        rw [hl1]
        rintro e w3 ⟨rfl, K3⟩
        have T3 := TT.keep K3 (by simp) (by simp)
        have g0 := K3.cell d0 (by simp)
        have g1 := K3.cell d1 (by simp)
        have KK3 := KK.trans K3
        clear TT d0 d1 KK K3
        go_wp2_with fail
        refine (meet_e T3 (by omega) x y _).mono ?_
        unfold Met
        rw [hl1]
        dsimp only
        rw [hl2]
        rintro e w4 ⟨rfl, T4, K4⟩
        have k0 := K4.cell g0 (by simp; omega)
        have k1 := K4.cell g1 (by simp; omega)
        have KK4 : Keeps (fun _ => False) w w4 := KK3.then_ K4 (fun i hi h => by rcases h with h | h <;> omega)
        clear T3 g0 g1 KK3 K4
        go_wp2_with fail
        refine (parked_e T4 x y).mono ?_
        rw [hl3]
        rintro e w5 ⟨rfl, K5⟩
        have T5 := T4.keep K5 (by simp) (by simp)
        have KK5 := KK4.trans K5
        clear T4 k0 k1 KK4 K5 hl1 hl2 hl3 hR hself
        have hfin : (2 * ((m + 1 : Nat) : Int) + (R.length : Int) == (c : Int) + 1) = true := by simp; omega
        have hml : R.length ≤ 1000 := by omega
        go_wp2_with (first | (go_at_call 23; refine (met_e T5).mono ?_; rintro e w' ⟨rfl, rfl⟩) | (go_at_call 24; refine (len_e T5).mono ?_; rintro e w' ⟨rfl, rfl⟩) | (go_at_call 9; refine (awake_any _).mono ?_; rintro e w6 ⟨rfl, K6⟩))
        go_ret
        exact ⟨rfl, below_of (KK5.trans K6)⟩
end Go.Proofs.Ytkiaboaeflbmoaa
