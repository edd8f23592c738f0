/- Slots as a list, and as a row of cells: plain law. -/
import Derived.Test.YtnhcejbgkhhijaaBase
import Derived.Maps.AppendAt
namespace Go.Pairs
open Go.RowKit

/-- a slot. -/
structure Cl where
  gen : Nat
  has : Bool
  x : Value

def Cl.vals (c : Cl) : List Value := [.int .i64 c.gen, .bool c.has, c.x]
def flat (L : List Cl) : List Value := L.flatMap Cl.vals

theorem flat_cons (c : Cl) (L : List Cl) : flat (c :: L) = .int .i64 c.gen :: .bool c.has :: c.x :: flat L := by simp [flat, Cl.vals]
theorem flat_snoc (L : List Cl) (c : Cl) : flat (L ++ [c]) = flat L ++ [.int .i64 c.gen, .bool c.has, c.x] := by simp [flat, Cl.vals]

theorem flat_len : ∀ (L : List Cl), (flat L).length = L.length * 3
  | [] => rfl
  | c :: L => by rw [flat_cons]; simp only [List.length_cons, flat_len L]; omega

theorem flat_get : ∀ (L : List Cl) (i : Nat) (h : i < L.length), (flat L)[i * 3]? = some (.int .i64 L[i].gen) ∧ (flat L)[i * 3 + 1]? = some (.bool L[i].has) ∧ (flat L)[i * 3 + 2]? = some L[i].x
  | c :: L, 0, _ => by simp [flat_cons]
  | c :: L, i + 1, h => by
    obtain ⟨h1, h2, h3⟩ := flat_get L i (by simpa using h)
    rw [flat_cons, show (i + 1) * 3 = i * 3 + 1 + 1 + 1 by omega]
    simp only [List.getElem?_cons_succ, List.getElem_cons_succ]
    exact ⟨h1, h2, h3⟩

theorem flat_set : ∀ (L : List Cl) (i : Nat) (_ : i < L.length) (g : Nat) (b : Bool) (x : Value), (((flat L).set (i * 3) (.int .i64 g)).set (i * 3 + 1) (.bool b)).set (i * 3 + 2) x = flat (L.set i ⟨g, b, x⟩)
  | c :: L, 0, _, g, b, x => by simp [flat_cons]
  | c :: L, i + 1, h, g, b, x => by
    have := flat_set L i (by simpa using h) g b x
    rw [flat_cons, show (i + 1) * 3 = i * 3 + 1 + 1 + 1 by omega]
    simp only [List.set_cons_succ, flat_cons]
    rw [← this]

theorem set_same {α : Type} : ∀ {l : List α} {i : Nat} {v : α}, l[i]? = some v → l.set i v = l
  | a :: l, 0, v, h => by simp at h; simp [h]
  | a :: l, i + 1, v, h => by simp at h; simp [set_same (by simpa using h)]
  | [], _, _, _ => rfl

theorem flat_setHX (L : List Cl) (i : Nat) (h : i < L.length) (b : Bool) (x : Value) : ((flat L).set (i * 3 + 1) (.bool b)).set (i * 3 + 2) x = flat (L.set i ⟨L[i].gen, b, x⟩) := by
  rw [← flat_set L i h L[i].gen b x]
  rw [set_same (flat_get L i h).1]

theorem flat_setX (L : List Cl) (i : Nat) (h : i < L.length) (x : Value) : (flat L).set (i * 3 + 2) x = flat (L.set i ⟨L[i].gen, L[i].has, x⟩) := by
  rw [← flat_setHX L i h L[i].has x]
  rw [set_same (flat_get L i h).2.1]

/-- the first free slot. -/
def ff : List Cl → Nat
  | [] => 0
  | c :: L => if c.has then ff L + 1 else 0

theorem ff_le : ∀ (L : List Cl), ff L ≤ L.length
  | [] => Nat.le_refl _
  | c :: L => by have := ff_le L; unfold ff; split <;> simp <;> omega

theorem ff_before : ∀ (L : List Cl) (i : Nat) (h : i < L.length), i < ff L → L[i].has = true
  | c :: L, 0, _, h => by unfold ff at h; split at h <;> simp_all
  | c :: L, i + 1, hl, h => by
    unfold ff at h
    split at h
    · exact ff_before L i (by simpa using hl) (by omega)
    · omega

theorem ff_free : ∀ (L : List Cl) (h : ff L < L.length), L[ff L].has = false
  | c :: L, h => by
    cases hc : c.has with
    | true =>
      have e : ff (c :: L) = ff L + 1 := by simp [ff, hc]
      have h' : ff L < L.length := by rw [e] at h; simpa using h
      have := ff_free L h'
      simp only [e, List.getElem_cons_succ]
      exact this
    | false =>
      have e : ff (c :: L) = 0 := by simp [ff, hc]
      simp only [e, List.getElem_cons_zero, hc]

theorem ff_eq : ∀ (L : List Cl) (p : Nat), p ≤ L.length → (∀ i (h : i < L.length), i < p → L[i].has = true) → (∀ (h : p < L.length), L[p].has = false) → ff L = p := by
  intro L p hp h1 h2
  rcases Nat.lt_trichotomy (ff L) p with h | h | h
  · have := h1 (ff L) (by omega) h
    rw [ff_free L (by omega)] at this; simp at this
  · exact h
  · have hl : p < L.length := by have := ff_le L; omega
    have := ff_before L p hl h
    rw [h2 hl] at this; simp at this

/-- Put's list. -/
def padL (L : List Cl) (z : Value) : List Cl := if ff L < L.length then L else L ++ [⟨0, false, z⟩]
def putL (L : List Cl) (z x : Value) : List Cl := (padL L z).set (ff L) ⟨((padL L z)[ff L]?.map (·.gen)).getD 0 + 1, true, x⟩
def putG (L : List Cl) : Nat := (L[ff L]?.map (·.gen)).getD 0 + 1

theorem padL_lt (L : List Cl) (z : Value) : ff L < (padL L z).length := by
  have := ff_le L
  unfold padL; split <;> simp <;> omega

theorem padL_gen (L : List Cl) (z : Value) : ((padL L z)[ff L]?.map (·.gen)).getD 0 + 1 = putG L := by
  unfold padL putG
  split
  · rfl
  · have := ff_le L
    have e : ff L = L.length := by omega
    rw [e, List.getElem?_append_right (Nat.le_refl _), List.getElem?_eq_none (Nat.le_refl _)]
    simp

end Go.Pairs
