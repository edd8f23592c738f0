/- The walk of RidgeNaNs. -/
import Derived.Test.YtkiaboaeflbmoaaShardsW
namespace Go.Proofs.Ytkiaboaeflbmoaa
open Go.RowKit Go.Pairs

/-- what the table holds behind i Meets of one key. -/
def NSt (q : Bool) (k : Value) (i met m : Nat) (L : List (Value × Value)) : Prop :=
  (∀ p ∈ L, p.1 = k) ∧ if q = true then met = i / 2 ∧ m = i / 2 ∧ L.length = i % 2 else met = 0 ∧ m = 0 ∧ L.length = i

theorem nst_look {q : Bool} {k : Value} (hq : veq k k = q) {i met m : Nat} {L : List (Value × Value)} (h : NSt q k i met m L) :
    (q = true ∧ i % 2 = 1 ∧ ∃ x, pLook veq k L = some x ∧ pStrike veq k L = []) ∨ ((q = false ∨ i % 2 = 0) ∧ pLook veq k L = none) := by
  obtain ⟨hk, h2⟩ := h
  cases q with
  | true =>
    simp at h2
    obtain ⟨-, -, hl⟩ := h2
    rcases Nat.mod_two_eq_zero_or_one i with e | e
    · rw [e] at hl
      have : L = [] := List.length_eq_zero_iff.1 hl
      subst this
      exact .inr ⟨.inr e, rfl⟩
    · rw [e] at hl
      match L, hl with
      | [p], _ =>
        have hp := hk p (by simp)
        refine .inl ⟨rfl, e, p.2, ?_, ?_⟩
        · simp [pLook, pAt, hp, hq]
        · simp [pStrike, hp, hq]
  | false =>
    refine .inr ⟨.inl rfl, ?_⟩
    clear h2
    have : ∀ (L : List (Value × Value)) j, (∀ p ∈ L, p.1 = k) → pAt veq k L j = none := by
      intro L
      induction L with
      | nil => intro j _; rfl
      | cons p L ih =>
        intro j h
        simp only [pAt, h p (by simp), hq]
        exact ih _ (fun p hp => h p (by simp [hp]))
    simp [pLook, this L 0 hk]

theorem nst_hit {k : Value} {i met m : Nat} {L : List (Value × Value)} (h : NSt true k i met m L) (hi : i % 2 = 1) : NSt true k (i + 1) (met + 1) (m + 1) [] := by
  obtain ⟨hk, h2⟩ := h
  simp at h2
  exact ⟨by simp, by simp; omega⟩

theorem nst_miss {q : Bool} {k : Value} {i met m : Nat} {L : List (Value × Value)} (h : NSt q k i met m L) (hi : q = false ∨ i % 2 = 0) (v : Value) : NSt q k (i + 1) met m (L ++ [(k, v)]) := by
  obtain ⟨hk, h2⟩ := h
  refine ⟨fun p hp => ?_, ?_⟩
  · rcases List.mem_append.1 hp with hp | hp
    · exact hk p hp
    · simp at hp; subst hp; rfl
  · cases q <;> simp at h2 hi ⊢ <;> omega

theorem run_neq_float (f : Nat) (w : World) : (binOp .neq 28 (.float .f64 f) (.float .f64 f)).run Try.prog w = .ok (.bool (!(Op.floatEq .f64 f f))) w := by
  simp [binOp, Op.floatCmp, Op.floatEq, bne]

theorem ridgeNaNs_walk (w : World) (f : Nat) (n : Int) (wn : (Lit.int .i64 n).wf = true) :
    Calls Try.prog 4 #[.float .f64 f, .int .i64 n] w fun e w' => e = .returned (.bool true) ∧ Below w.heap.size w w' := by
  have hb := bounds_i64 wn
  obtain ⟨hb1, hb2⟩ := hb
  by_cases h : 0 ≤ n ∧ n ≤ 50
  · obtain ⟨h0, h1⟩ := h
    obtain ⟨q, hq⟩ : ∃ q, veq (.float .f64 f) (.float .f64 f) = q := ⟨_, rfl⟩
    have hq' : Op.floatEq .f64 f f = q := hq
    have Hq := hidp hq
    clear hq
    have hne := run_neq_float f
    rw [hq'] at hne
    clear hq'
    obtain ⟨N, rfl⟩ := Int.eq_ofNat_of_zero_le h0
    go_enter Try.func4, Try.ntmps4
    go_wp2_with fail
    refine (new_f w).mono ?_
    rintro e w1 ⟨a, b, rfl, T, ha, hb, K1⟩
    go_wp2_with fail
    go_loopw [6, 7] (fun mt i wr => ∃ (j met m : Nat) (L : List (Value × Value)), j ≤ N ∧ i = .int .i64 j ∧ mt = .int .i64 met ∧ met ≤ j ∧ NSt q (.float .f64 f) j met m L ∧ m ≤ j ∧ Tab ok_f wr a b m L ∧ Keeps (fun _ => False) w wr) (fun _ i _ => N - (intOf i).toNat)
    case atStart => exact ⟨0, 0, 0, [], by omega, rfl, rfl, by omega, ⟨by simp, by simp⟩, by omega, T, K1⟩
    case round =>
      obtain ⟨j, met, m, L, hj, rfl, rfl, hmt, hS, hm, TT, KK⟩ := hrel
      by_cases hlt : j < N
      · go_wp2_with fail
        refine (meet_f TT (by omega) ⟨f, rfl⟩ _).mono ?_
        unfold Met
        rcases nst_look Hq.out hS with ⟨rfl, hodd, x, hx, hst⟩ | ⟨hc, hx⟩
        · rw [hx]
          simp only [hst]
          rintro e w2 ⟨rfl, T2, K2⟩
          have S2 := nst_hit hS hodd
          have K3 : Keeps (fun _ => False) w w2 := KK.then_ K2 (fun i hi h => by rcases h with h | h <;> omega)
          clear hS TT KK T K1 hx hst hodd
          go_wp2
          go_roundw
          case rel => exact ⟨j + 1, met + 1, m + 1, [], by omega, by go_num, by go_num, by omega, S2, by omega, T2, K3⟩
          case measure => simp [intOf]; omega
        · rw [hx]
          rintro e w2 ⟨rfl, T2, K2⟩
          have S2 := nst_miss hS hc (.int .i64 j)
          have K3 : Keeps (fun _ => False) w w2 := KK.then_ K2 (fun i hi h => by rcases h with h | h <;> omega)
          clear hS TT KK T K1 hx hc
          go_wp2
          go_roundw
          case rel => exact ⟨j + 1, met, m, _, by omega, by go_num, rfl, by omega, S2, by omega, T2, K3⟩
          case measure => simp [intOf]; omega
      · obtain rfl : j = N := by omega
        cases q with
        | true =>
          obtain ⟨-, hS2⟩ := hS
          simp only [if_true] at hS2
          obtain ⟨e1, e2, e3⟩ := hS2
          have e1' : ((met : Int) == (j : Int) / 2) = true := by simp; omega
          have e3' : ((L.length : Int) == (j : Int) % 2) = true := by simp; omega
          clear T K1 e1 e2 e3
          go_wp2_with (first | (go_at_call 12; refine (len_f TT).mono ?_; rintro e w' ⟨rfl, rfl⟩) | (go_at_call 9; refine (awake_any _).mono ?_; rintro e w3 ⟨rfl, K3⟩))
          go_ret
          exact ⟨rfl, below_of (KK.trans K3)⟩
        | false =>
          obtain ⟨-, hS2⟩ := hS
          simp only [Bool.false_eq_true, if_false] at hS2
          obtain ⟨e1, e2, e3⟩ := hS2
          subst e1
          have e3' : ((L.length : Int) == (j : Int)) = true := by simp; omega
          clear T K1 e2 e3
          go_wp2_with (first | (go_at_call 12; refine (len_f TT).mono ?_; rintro e w' ⟨rfl, rfl⟩) | (go_at_call 9; refine (awake_any _).mono ?_; rintro e w3 ⟨rfl, K3⟩))
          go_ret
          exact ⟨rfl, below_of (KK.trans K3)⟩
  · go_enter Try.func4, Try.ntmps4
    go_wp2_with fail
    refine (new_f w).mono ?_
    rintro e w1 ⟨a, b, rfl, T, ha, hb, K1⟩
    rcases Int.lt_or_le n 0 with hn | hn
    · go_wp2_with (go_at_call 9; refine (awake_any _).mono ?_; rintro e w3 ⟨rfl, K3⟩)
      go_ret
      exact ⟨rfl, below_of (K1.trans K3)⟩
    · have hn1 : 50 < n := by omega
      go_wp2_with (go_at_call 9; refine (awake_any _).mono ?_; rintro e w3 ⟨rfl, K3⟩)
      go_ret
      exact ⟨rfl, below_of (K1.trans K3)⟩
end Go.Proofs.Ytkiaboaeflbmoaa
