/- SlabOnce: the slab beside the rows of live and of dead handles; the region that takes a handle out. -/
import Derived.Test.YtnhcejbgkhhijaaOnce
import Derived.Deep.RegionHeld3
import Derived.OwnWalk
import Derived.Laws.OwnMore
namespace Go.Proofs.Ytnhcejbgkhhijaa
open Go.RowKit Go.Pairs

theorem keeps_row {S : Nat → Prop} {w w' : World} (hk : Keeps S w w') {B e sz : Nat} {v : Value} {n : Nat} {xs : List Value} (h : w.ownsRow B e sz v n xs) (hs : ∀ k, v.ownBlock = some k → ¬ S k) : w'.ownsRow B e sz v n xs := by
  rcases h with ⟨h1, h2 | ⟨g, cap, cur, h2, h3, h4, h5⟩⟩
  · exact ⟨h1, .inl h2⟩
  · exact ⟨h1, .inr ⟨g, cap, cur, h2, h3, (hk.block g (Array.getElem?_eq_some_iff.1 h4).1 (hs g (by rw [h2]; rfl))).trans h4, h5⟩⟩

/-- the blocks of the caller. -/
def AA (X : Nat → Prop) (lv dv : Value) : Nat → Prop := fun k => X k ∨ some k = lv.ownBlock ∨ some k = dv.ownBlock

structure OS (w W : World) (c : Nat) (L : List Cl) (V D : List (Nat × Nat)) (lv dv : Value) (X : Nat → Prop) : Prop where
  own : Own_i w W c L (AA X lv dv)
  r1 : W.ownsRow w.heap.size 27 2 lv V.length (hc V)
  r2 : W.ownsRow w.heap.size 27 2 dv D.length (hc D)
  ne : ∀ k, lv.ownBlock = some k → dv.ownBlock ≠ some k
  x : ∀ k, X k → w.heap.size ≤ k ∧ k < W.heap.size ∧ lv.ownBlock ≠ some k ∧ dv.ownBlock ≠ some k

section
variable {w W W' : World} {c : Nat} {L L' : List Cl} {V D : List (Nat × Nat)} {lv dv : Value} {X : Nat → Prop}

theorem OS.aa (h : OS w W c L V D lv dv X) : ∀ k, AA X lv dv k → w.heap.size ≤ k ∧ k < W.heap.size := by
  rintro k (hk | hk | hk)
  · have := h.x k hk; omega
  · have := h.r1.lt k hk.symm; omega
  · have := h.r2.lt k hk.symm; omega

theorem OS.slab (h : OS w W c L V D lv dv X) (ho : Own_i w W' c L' (AA X lv dv)) (hk : Keeps (fun k => ¬ AA X lv dv k) W W') : OS w W' c L' V D lv dv X :=
  ⟨ho, keeps_row hk h.r1 fun _ e hn => hn (.inr (.inl e.symm)), keeps_row hk h.r2 fun _ e hn => hn (.inr (.inr e.symm)), h.ne, fun k hx => ⟨(h.x k hx).1, Nat.lt_of_lt_of_le (h.x k hx).2.1 hk.size, (h.x k hx).2.2⟩⟩

theorem OS.quiet (h : OS w W c L V D lv dv X) (hk : Keeps (fun _ => False) W W') : OS w W' c L V D lv dv X := by
  obtain ⟨h1, h2⟩ := h.own.quiet hk
  exact h.slab h1 h2

theorem OS.alloc (h : OS w W c L V D lv dv X) (o : Obj) : OS w (W.alloc o) c L V D lv dv (fun k => X k ∨ k = W.heap.size) := by
  have hs : (W.alloc o).heap.size = W.heap.size + 1 := by simp
  refine ⟨h.own.mine ((Keeps.refl _ _).alloc o) (fun k hk => (h.aa k hk).1) fun k hk => ?_, h.r1.alloc o, h.r2.alloc o, h.ne, fun k hk => ?_⟩
  · rw [hs]
    rcases hk with (hk | hk) | hk | hk
    · exact ⟨.inl (.inl hk), by have := h.aa k (.inl hk); omega⟩
    · exact ⟨.inr (by omega), by omega⟩
    · exact ⟨.inl (.inr (.inl hk)), by have := h.aa k (.inr (.inl hk)); omega⟩
    · exact ⟨.inl (.inr (.inr hk)), by have := h.aa k (.inr (.inr hk)); omega⟩
  · rw [hs]
    rcases hk with hk | hk
    · have := h.x k hk
      exact ⟨this.1, by omega, this.2.2⟩
    · have := h.own.keeps.size
      refine ⟨by omega, by omega, fun e => ?_, fun e => ?_⟩
      · have := h.r1.lt k e; omega
      · have := h.r2.lt k e; omega

theorem OS.drop (h : OS w W c L V D lv dv X) : OS w W c L V D lv dv (fun _ => False) :=
  ⟨h.own.mine (Keeps.refl _ _) (fun k hk => (h.aa k hk).1) fun k hk => by
      rcases hk with hk | hk
      · exact hk.elim
      · exact ⟨.inl (.inr hk), (h.aa k (.inr hk)).2⟩, h.r1, h.r2, h.ne, fun _ hk => hk.elim⟩

/-- a handle behind the live ones. -/
theorem OS.app1 (h : OS w W c L V D lv dv X) {o : Obj} {v' : Value} {a : Nat × Nat} (hown : W'.ownsRow w.heap.size 27 2 v' (V.length + 1) (hc V ++ [.int .i64 a.1, .int .i64 a.2])) (hgr : (W.alloc o).grownBy W' lv.ownBlock) (hloc : v'.ownBlock = lv.ownBlock ∨ v'.ownBlock = some (W.heap.size + 1)) : OS w W' c L (V ++ [a]) D v' dv (fun _ => False) := by
  have hs : (W.alloc o).heap.size = W.heap.size + 1 := by simp
  have K : Keeps (fun k => some k = lv.ownBlock) W W' := ((Keeps.refl _ _).alloc o).grown hgr fun k e => .inl e.symm
  have hd : dv.ownBlock = none ∨ dv.ownBlock ≠ v'.ownBlock := by
    cases hdv : dv.ownBlock with
    | none => exact .inl rfl
    | some k =>
      refine .inr fun e => ?_
      rcases hloc with hl | hl
      · exact h.ne k (by rw [← hl, ← e]) hdv
      · rw [hl] at e
        have := h.r2.lt k hdv
        simp at e; omega
  refine ⟨h.own.mine (K.mono fun k _ e => .inr (.inl e)) (fun k hk => (h.aa k hk).1) fun k hk => ?_, ?_, keeps_row K h.r2 fun k e e' => h.ne k e'.symm e, fun k e e' => ?_, fun _ hk => hk.elim⟩
  · rcases hk with hk | hk | hk
    · exact hk.elim
    · have := hown.lt k hk.symm
      rcases hloc with hl | hl
      · exact ⟨.inl (.inr (.inl (hk.trans hl))), this.2⟩
      · rw [hl] at hk
        simp at hk
        exact ⟨.inr (by omega), this.2⟩
    · have := h.r2.lt k hk.symm
      have := K.size
      exact ⟨.inl (.inr (.inr hk)), by omega⟩
  · rw [hc_app, List.length_append]
    exact hown
  · rcases hd with hd | hd
    · rw [hd] at e'; simp at e'
    · exact hd (e'.trans e.symm)

/-- a handle behind the dead ones. -/
theorem OS.app2 (h : OS w W c L V D lv dv X) {o : Obj} {v' : Value} {a : Nat × Nat} (hown : W'.ownsRow w.heap.size 27 2 v' (D.length + 1) (hc D ++ [.int .i64 a.1, .int .i64 a.2])) (hgr : (W.alloc o).grownBy W' dv.ownBlock) (hloc : v'.ownBlock = dv.ownBlock ∨ v'.ownBlock = some (W.heap.size + 1)) : OS w W' c L V (D ++ [a]) lv v' (fun _ => False) := by
  have hs : (W.alloc o).heap.size = W.heap.size + 1 := by simp
  have K : Keeps (fun k => some k = dv.ownBlock) W W' := ((Keeps.refl _ _).alloc o).grown hgr fun k e => .inl e.symm
  have hd : lv.ownBlock = none ∨ lv.ownBlock ≠ v'.ownBlock := by
    cases hdv : lv.ownBlock with
    | none => exact .inl rfl
    | some k =>
      refine .inr fun e => ?_
      rcases hloc with hl | hl
      · exact h.ne k hdv (by rw [← hl, ← e])
      · rw [hl] at e
        have := h.r1.lt k hdv
        simp at e; omega
  refine ⟨h.own.mine (K.mono fun k _ e => .inr (.inr e)) (fun k hk => (h.aa k hk).1) fun k hk => ?_, keeps_row K h.r1 fun k e e' => h.ne k e e'.symm, ?_, fun k e e' => ?_, fun _ hk => hk.elim⟩
  · rcases hk with hk | hk | hk
    · exact hk.elim
    · have := h.r1.lt k hk.symm
      have := K.size
      exact ⟨.inl (.inr (.inl hk)), by omega⟩
    · have := hown.lt k hk.symm
      rcases hloc with hl | hl
      · exact ⟨.inl (.inr (.inr (hk.trans hl))), this.2⟩
      · rw [hl] at hk
        simp at hk
        exact ⟨.inr (by omega), this.2⟩
  · rw [hc_app, List.length_append]
    exact hown
  · rcases hd with hd | hd
    · rw [hd] at e; simp at e
    · exact hd (e.trans e'.symm)

/-- the live handles lie in a new row. -/
theorem OS.new1 (h : OS w W c L V D lv dv X) {v' : Value} {V' : List (Nat × Nat)} (hk : Keeps (fun _ => False) W W') (hown : W'.ownsRow w.heap.size 27 2 v' V'.length (hc V')) (hloc : ∀ k, v'.ownBlock = some k → W.heap.size ≤ k) : OS w W' c L V' D v' dv (fun _ => False) := by
  refine ⟨h.own.mine (hk.mono (fun _ _ h => h.elim)) (fun k hk => (h.aa k hk).1) fun k hk' => ?_, hown, keeps_row hk h.r2 (fun _ _ h => h), fun k e e' => ?_, fun _ hk => hk.elim⟩
  · rcases hk' with hk' | hk' | hk'
    · exact hk'.elim
    · exact ⟨.inr (hloc k hk'.symm), (hown.lt k hk'.symm).2⟩
    · have := h.r2.lt k hk'.symm
      have := hk.size
      exact ⟨.inl (.inr (.inr hk')), by omega⟩
  · have := hloc k e
    have := h.r2.lt k e'
    omega
end
end Go.Proofs.Ytnhcejbgkhhijaa
