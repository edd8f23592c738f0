/- The slab's methods, at ints and at strings. -/
import Derived.Test.YtnhcejbgkhhijaaRows
import Derived.Test.YtnhcejbgkhhijaaCells
import Derived.WalkKit
import Derived.WalkSpells
import Derived.WalkLawsBesides
import Derived.StillTailTactics
import Derived.Deep.QuietTactic
import Derived.BigQuiet
namespace Go.Proofs.Ytnhcejbgkhhijaa
open Go.RowKit Go.Pairs

theorem cells_at {w : World} {c : Nat} {cs : Array Value} {t : TypeId} {fr : Nat × Nat} (h : w.heap[c]? = some (.cells cs t fr)) (i : Nat) : w.cell? ⟨c, i, none⟩ = cs[i]? := by simp [World.cell?, h]
theorem free_at {w : World} {c : Nat} {cs : Array Value} {t : TypeId} (h : w.heap[c]? = some (.cells cs t (0, 0))) (i : Nat) : w.frozen? ⟨c, i, none⟩ = false := by simp [World.frozen?, h]
theorem setCell_block {w : World} {c : Nat} {cs : Array Value} {t : TypeId} {fr : Nat × Nat} (h : w.heap[c]? = some (.cells cs t fr)) (o : Nat) (u : Value) : (w.setCell ⟨c, o, none⟩ u).heap[c]? = some (.cells (cs.setIfInBounds o u) t fr) := by
  simp [World.setCell, Array.getElem?_modify, h]
theorem keeps_drewN {S : Nat → Prop} {a w : World} (h : Keeps S a w) (n : Nat) : Keeps S a (w.drewN n) := ⟨h.os, h.tape, h.output, h.size, h.block⟩

/-- how many are there. -/
def cnt (L : List Cl) : Nat := (L.filter (·.has)).length

/-- the row of a slab. -/
inductive Row (e : TypeId) (w : World) (c : Nat) (L : List Cl) : Value → Option Nat → Prop
  | none_ : L = [] → Row e w c L (.slice none 0 0) none
  | row (k cap : Nat) (cur : Array Value) : k ≠ c → w.heap[k]? = some (.cells cur e (0, 0)) → L.length ≤ cap → cap ≤ maxLen → cur.size = cap * 3 → cur.toList.take (L.length * 3) = flat L → Row e w c L (.slice (some ⟨k, 0, none⟩) L.length cap) (some k)

theorem Row.keep {e : TypeId} {w w' : World} {c : Nat} {L : List Cl} {v : Value} {g : Option Nat} (h : Row e w c L v g) {S : Nat → Prop} (hk : Keeps S w w') (hg : ∀ k, g = some k → ¬ S k) : Row e w' c L v g := by
  cases h with
  | none_ h => exact .none_ h
  | row k cap cur h1 h2 h3 h4 h5 h6 => exact .row k cap cur h1 ((hk.block k (Array.getElem?_eq_some_iff.1 h2).1 (hg k rfl)).trans h2) h3 h4 h5 h6

theorem cur_at {cur : Array Value} {L : List Cl} (h : cur.toList.take (L.length * 3) = flat L) {j : Nat} (hj : j < L.length * 3) : cur[j]? = (flat L)[j]? := by
  rw [← h, List.getElem?_take, if_pos hj, Array.getElem?_toList]

theorem row_read {e : TypeId} {w : World} {c : Nat} {L : List Cl} {v : Value} {g : Option Nat} (h : Row e w c L v g) {i : Nat} (hi : i < L.length) :
    ∃ k cap, g = some k ∧ v = .slice (some ⟨k, 0, none⟩) L.length cap ∧ L.length ≤ cap ∧ cap ≤ maxLen ∧ w.cell? ⟨k, i * 3, none⟩ = some (.int .i64 L[i].gen) ∧ w.cell? ⟨k, i * 3 + 1, none⟩ = some (.bool L[i].has) ∧ w.cell? ⟨k, i * 3 + 2, none⟩ = some L[i].x := by
  cases h with
  | none_ h => simp [h] at hi
  | row k cap cur h1 h2 h3 h4 h5 h6 =>
    obtain ⟨g1, g2, g3⟩ := flat_get L i hi
    exact ⟨k, cap, rfl, rfl, h3, h4, by rw [cells_at h2, cur_at h6 (by omega), g1], by rw [cells_at h2, cur_at h6 (by omega), g2], by rw [cells_at h2, cur_at h6 (by omega), g3]⟩


/-- block c is a slab that holds L, in the row v. -/
structure SL_i (w : World) (c : Nat) (v : Value) (g : Option Nat) (L : List Cl) (low : Nat) : Prop where
  cell : w.heap[c]? = some (.cells #[v, .int .i64 (cnt L), .int .i64 low] 59 (0, 0))
  row : Row 61 w c L v g
  le : low ≤ ff L
  len : L.length ≤ 1000000
  els : ∀ d ∈ L, ∃ x, d.x = Value.int .i64 x

theorem SL_i.keep {w w' : World} {c : Nat} {v : Value} {g : Option Nat} {L : List Cl} {low : Nat} (h : SL_i w c v g L low) {S : Nat → Prop} (hk : Keeps S w w') (hc : ¬ S c) (hg : ∀ k, g = some k → ¬ S k) : SL_i w' c v g L low :=
  ⟨(hk.block c (Array.getElem?_eq_some_iff.1 h.cell).1 hc).trans h.cell, h.row.keep hk hg, h.le, h.len, h.els⟩

/-- what an operation leaves. -/
def Did_i (w : World) (c : Nat) (g : Option Nat) (L : List Cl) (w' : World) : Prop :=
  ∃ v' g' low', SL_i w' c v' g' L low' ∧ (g' = g ∨ ∃ k, g' = some k ∧ w.heap.size ≤ k) ∧ Keeps (fun k => k = c ∨ some k = g) w w'

theorem new_i (w : World) : Calls Try.prog 7 #[] w fun e w' => e = .returned (.pointer (some ⟨w.heap.size, 0, none⟩)) ∧ SL_i w' w.heap.size (.slice none 0 0) none [] 0 ∧ Keeps (fun _ => False) w w' ∧ w'.heap.size = w.heap.size + 1 := by
  have hfin : SL_i (w.alloc (.cells #[.slice none 0 0, .int .i64 0, .int .i64 0] 59)) w.heap.size (.slice none 0 0) none [] 0 :=
    ⟨heap_alloc_new w _, .none_ rfl, Nat.le_refl _, by simp, by simp⟩
  have HF := hidp hfin
  clear hfin
  go_enter Try.func7, Try.ntmps7
  go_wp2
  go_ret
  exact ⟨rfl, by simpa using HF.out, (Keeps.refl _ _).alloc _, by simp⟩

theorem len_i {w : World} {c : Nat} {v : Value} {g : Option Nat} {L : List Cl} {low : Nat} (h : SL_i w c v g L low) :
    Calls Try.prog 12 #[.pointer (some ⟨c, 0, none⟩)] w fun e w' => e = .returned (.int .i64 (cnt L)) ∧ w = w' := by
  have c1 : w.cell? ⟨c, 1, none⟩ = some (.int .i64 (cnt L)) := cells_at h.cell 1
  go_enter Try.func12, Try.ntmps12
  go_wp2
  go_ret
  exact ⟨rfl, rfl⟩

theorem cellyes_i {w : World} {c : Nat} {v : Value} {g : Option Nat} {L : List Cl} {low : Nat} (h : SL_i w c v g L low) (s n : Int) (i : Nat) (hs : s = i) (hi : i < L.length) (hh : L[i].has = true) (hn : (L[i].gen : Int) = n) :
    Calls Try.prog 22 #[.pointer (some ⟨c, 0, none⟩), .agg #[.int .i64 s, .int .i64 n]] w fun e w' => (∃ k, g = some k ∧ e = .returned (.pointer (some ⟨k, i * 3, none⟩))) ∧ Keeps (fun _ => False) w w' := by
  subst hs
  obtain ⟨k, cap, rfl, rfl, hc1, hc2, r0, r1, r2⟩ := row_read h.row hi
  rw [hh] at r1
  rw [hn] at r0
  have c0 : w.cell? ⟨c, 0, none⟩ = some (.slice (some ⟨k, 0, none⟩) L.length cap) := cells_at h.cell 0
  have K0 := (Keeps.refl (fun _ => False) w).alloc (.cells #[.int .i64 i, .int .i64 n] 27)
  have a0 : (w.alloc (.cells #[.int .i64 i, .int .i64 n] 27)).cell? ⟨w.heap.size, 0, none⟩ = some (.int .i64 i) := cells_at (heap_alloc_new w _) 0
  have a1 : (w.alloc (.cells #[.int .i64 i, .int .i64 n] 27)).cell? ⟨w.heap.size, 1, none⟩ = some (.int .i64 n) := cells_at (heap_alloc_new w _) 1
  have b0 := K0.cell c0 (by simp)
  have b1 := K0.cell r0 (by simp)
  have b2 := K0.cell r1 (by simp)
  obtain ⟨W1, hW1⟩ : ∃ W1, W1 = w.alloc (.cells #[.int .i64 i, .int .i64 n] 27) := ⟨_, rfl⟩
  rw [← hW1] at K0 a0 a1 b0 b1 b2
  have HK := hidp K0
  clear h r0 r1 r2 c0 K0
  have t1 : decide ((i : Int) < 0) = false := by simp
  have t2 : ((i : Int) < L.length) := by omega
  have t3 : decide ((i : Int) ≥ L.length) = false := by simp; omega
  go_enter Try.func22, Try.ntmps22
  go_wp2
  rw [← hW1]
  clear hW1
  go_quiet (fail)
  go_wp2
  go_quiet (fail)
  go_wp2
  go_ret
  exact ⟨⟨k, rfl, rfl⟩, keeps_drewN (keeps_drewN HK.out _) _⟩

/-- block c is a slab that holds L, in the row v. -/
structure SL_s (w : World) (c : Nat) (v : Value) (g : Option Nat) (L : List Cl) (low : Nat) : Prop where
  cell : w.heap[c]? = some (.cells #[v, .int .i64 (cnt L), .int .i64 low] 74 (0, 0))
  row : Row 76 w c L v g
  le : low ≤ ff L
  len : L.length ≤ 1000000
  els : ∀ d ∈ L, ∃ x, d.x = Value.string x

theorem SL_s.keep {w w' : World} {c : Nat} {v : Value} {g : Option Nat} {L : List Cl} {low : Nat} (h : SL_s w c v g L low) {S : Nat → Prop} (hk : Keeps S w w') (hc : ¬ S c) (hg : ∀ k, g = some k → ¬ S k) : SL_s w' c v g L low :=
  ⟨(hk.block c (Array.getElem?_eq_some_iff.1 h.cell).1 hc).trans h.cell, h.row.keep hk hg, h.le, h.len, h.els⟩

/-- what an operation leaves. -/
def Did_s (w : World) (c : Nat) (g : Option Nat) (L : List Cl) (w' : World) : Prop :=
  ∃ v' g' low', SL_s w' c v' g' L low' ∧ (g' = g ∨ ∃ k, g' = some k ∧ w.heap.size ≤ k) ∧ Keeps (fun k => k = c ∨ some k = g) w w'

theorem new_s (w : World) : Calls Try.prog 23 #[] w fun e w' => e = .returned (.pointer (some ⟨w.heap.size, 0, none⟩)) ∧ SL_s w' w.heap.size (.slice none 0 0) none [] 0 ∧ Keeps (fun _ => False) w w' ∧ w'.heap.size = w.heap.size + 1 := by
  have hfin : SL_s (w.alloc (.cells #[.slice none 0 0, .int .i64 0, .int .i64 0] 74)) w.heap.size (.slice none 0 0) none [] 0 :=
    ⟨heap_alloc_new w _, .none_ rfl, Nat.le_refl _, by simp, by simp⟩
  have HF := hidp hfin
  clear hfin
  go_enter Try.func23, Try.ntmps23
  go_wp2
  go_ret
  exact ⟨rfl, by simpa using HF.out, (Keeps.refl _ _).alloc _, by simp⟩

theorem len_s {w : World} {c : Nat} {v : Value} {g : Option Nat} {L : List Cl} {low : Nat} (h : SL_s w c v g L low) :
    Calls Try.prog 27 #[.pointer (some ⟨c, 0, none⟩)] w fun e w' => e = .returned (.int .i64 (cnt L)) ∧ w = w' := by
  have c1 : w.cell? ⟨c, 1, none⟩ = some (.int .i64 (cnt L)) := cells_at h.cell 1
  go_enter Try.func27, Try.ntmps27
  go_wp2
  go_ret
  exact ⟨rfl, rfl⟩

theorem cellyes_s {w : World} {c : Nat} {v : Value} {g : Option Nat} {L : List Cl} {low : Nat} (h : SL_s w c v g L low) (s n : Int) (i : Nat) (hs : s = i) (hi : i < L.length) (hh : L[i].has = true) (hn : (L[i].gen : Int) = n) :
    Calls Try.prog 30 #[.pointer (some ⟨c, 0, none⟩), .agg #[.int .i64 s, .int .i64 n]] w fun e w' => (∃ k, g = some k ∧ e = .returned (.pointer (some ⟨k, i * 3, none⟩))) ∧ Keeps (fun _ => False) w w' := by
  subst hs
  obtain ⟨k, cap, rfl, rfl, hc1, hc2, r0, r1, r2⟩ := row_read h.row hi
  rw [hh] at r1
  rw [hn] at r0
  have c0 : w.cell? ⟨c, 0, none⟩ = some (.slice (some ⟨k, 0, none⟩) L.length cap) := cells_at h.cell 0
  have K0 := (Keeps.refl (fun _ => False) w).alloc (.cells #[.int .i64 i, .int .i64 n] 27)
  have a0 : (w.alloc (.cells #[.int .i64 i, .int .i64 n] 27)).cell? ⟨w.heap.size, 0, none⟩ = some (.int .i64 i) := cells_at (heap_alloc_new w _) 0
  have a1 : (w.alloc (.cells #[.int .i64 i, .int .i64 n] 27)).cell? ⟨w.heap.size, 1, none⟩ = some (.int .i64 n) := cells_at (heap_alloc_new w _) 1
  have b0 := K0.cell c0 (by simp)
  have b1 := K0.cell r0 (by simp)
  have b2 := K0.cell r1 (by simp)
  obtain ⟨W1, hW1⟩ : ∃ W1, W1 = w.alloc (.cells #[.int .i64 i, .int .i64 n] 27) := ⟨_, rfl⟩
  rw [← hW1] at K0 a0 a1 b0 b1 b2
  have HK := hidp K0
  clear h r0 r1 r2 c0 K0
  have t1 : decide ((i : Int) < 0) = false := by simp
  have t2 : ((i : Int) < L.length) := by omega
  have t3 : decide ((i : Int) ≥ L.length) = false := by simp; omega
  go_enter Try.func30, Try.ntmps30
  go_wp2
  rw [← hW1]
  clear hW1
  go_quiet (fail)
  go_wp2
  go_quiet (fail)
  go_wp2
  go_ret
  exact ⟨⟨k, rfl, rfl⟩, keeps_drewN (keeps_drewN HK.out _) _⟩
end Go.Proofs.Ytnhcejbgkhhijaa
