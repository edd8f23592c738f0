/- A ring of places that holds a list: plain law, no program in sight. -/
import Derived.Test.YtmnciedkkceiaaaBase
namespace Go.Pairs

/-- the ring R, from place a on, holds L. -/
def Cont (R : List Value) (a : Nat) (L : List Value) : Prop :=
  L.length ≤ R.length ∧ ∀ i, i < L.length → R[(a + i) % R.length]? = L[i]?

theorem mod_ne {a i j n : Nat} (hi : i < n) (hj : j < n) (h : i ≠ j) : (a + i) % n ≠ (a + j) % n := by
  intro e
  have h1 := Nat.div_add_mod (a + i) n
  have h2 := Nat.div_add_mod (a + j) n
  rw [e] at h1
  rcases Nat.lt_trichotomy ((a + i) / n) ((a + j) / n) with hlt | heq | hgt
  · have : n * ((a + i) / n) + n ≤ n * ((a + j) / n) := by
      have := Nat.mul_le_mul_left n (show (a + i) / n + 1 ≤ (a + j) / n by omega)
      rw [Nat.mul_add] at this; simpa using this
    omega
  · rw [heq] at h1; omega
  · have : n * ((a + j) / n) + n ≤ n * ((a + i) / n) := by
      have := Nat.mul_le_mul_left n (show (a + j) / n + 1 ≤ (a + i) / n by omega)
      rw [Nat.mul_add] at this; simpa using this
    omega

theorem cont_send {R : List Value} {a : Nat} {L : List Value} (h : Cont R a L) (hl : L.length < R.length) (x : Value) : Cont (R.set ((a + L.length) % R.length) x) a (L ++ [x]) := by
  obtain ⟨h1, h2⟩ := h
  refine ⟨by simp; omega, fun i hi => ?_⟩
  simp only [List.length_append, List.length_cons, List.length_nil] at hi
  rw [List.length_set]
  by_cases e : i = L.length
  · subst e
    rw [List.getElem?_set_self (Nat.mod_lt _ (by omega))]
    simp
  · have hi' : i < L.length := by omega
    rw [List.getElem?_set_ne (mod_ne (by omega) (by omega) (Ne.symm e)), h2 i hi', List.getElem?_append_left hi']

theorem cont_recv {R : List Value} {a : Nat} {x : Value} {L : List Value} (h : Cont R a (x :: L)) (ha : a < R.length) (z : Value) : R[a]? = some x ∧ Cont (R.set a z) ((a + 1) % R.length) L := by
  obtain ⟨h1, h2⟩ := h
  simp only [List.length_cons] at h1 h2
  have h0 := h2 0 (by omega)
  simp only [Nat.add_zero, Nat.mod_eq_of_lt ha, List.getElem?_cons_zero] at h0
  refine ⟨h0, by simp; omega, fun i hi => ?_⟩
  have hh := h2 (i + 1) (by omega)
  rw [List.length_set, List.getElem?_set_ne, Nat.mod_add_mod, show a + 1 + i = a + (i + 1) by omega, hh]
  · simp
  · have := mod_ne (a := a) (i := 0) (j := i + 1) (n := R.length) (by omega) (by omega) (by omega)
    rw [Nat.mod_add_mod, show a + 1 + i = a + (i + 1) by omega]
    rw [Nat.add_zero, Nat.mod_eq_of_lt ha] at this
    exact this

theorem cont_grow {R : List Value} {a : Nat} {L : List Value} (h : Cont R a L) (hl : L.length = R.length) (ha : a < R.length ∨ R.length = 0) (Z : List Value) : Cont (R.drop a ++ R.take a ++ Z) 0 L := by
  obtain ⟨h1, h2⟩ := h
  refine ⟨by simp; omega, fun i hi => ?_⟩
  have ha' : a < R.length := by omega
  have hlen : (R.drop a ++ R.take a).length = R.length := by simp; omega
  rw [Nat.zero_add, Nat.mod_eq_of_lt (by rw [List.length_append, hlen]; omega), List.getElem?_append_left (by omega), ← h2 i hi]
  by_cases hc : i < R.length - a
  · rw [List.getElem?_append_left (by simp; omega), List.getElem?_drop, Nat.mod_eq_of_lt (by omega)]
  · rw [List.getElem?_append_right (by simp; omega), List.getElem?_take]
    rw [if_pos (by simp; omega), List.length_drop]
    congr 1
    rw [show a + i = (i - (R.length - a)) + R.length by omega, Nat.add_mod_right, Nat.mod_eq_of_lt (by omega)]

theorem cont_nil (R : List Value) (a : Nat) : Cont R a [] := ⟨by simp, fun i hi => by simp at hi⟩

end Go.Pairs
