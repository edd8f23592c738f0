/- SlabPlays: what the caller owns while it plays. -/
import Derived.Test.YtnhcejbgkhhijaaAllW
namespace Go.Proofs.Ytnhcejbgkhhijaa
open Go.RowKit Go.Pairs

/-- the blocks that are not the slab's. -/
def PA (c : Nat) (g' : Option Nat) (tv : Value) (X : Nat → Prop) : Nat → Prop := fun k => k = c ∨ some k = g' ∨ some k = tv.ownBlock ∨ X k

structure PS (w W : World) (s c : Nat) (L R : List Cl) (V : List (Nat × Nat)) (tv v' : Value) (g' : Option Nat) (X : Nat → Prop) : Prop where
  own : Own_i w W s L (PA c g' tv X)
  ref : RF W c v' g' R
  cnew : w.heap.size ≤ c
  gnew : ∀ k, g' = some k → w.heap.size ≤ k ∧ some k ≠ tv.ownBlock
  told : W.ownsRow w.heap.size 27 2 tv V.length (hc V)
  tc : some c ≠ tv.ownBlock
  x : ∀ k, X k → w.heap.size ≤ k ∧ k ≠ c ∧ some k ≠ g' ∧ some k ≠ tv.ownBlock

section
variable {w W W' : World} {s c : Nat} {L L' R R' : List Cl} {V : List (Nat × Nat)} {tv v' : Value} {g' : Option Nat} {X : Nat → Prop}

theorem PS.lt (h : PS w W s c L R V tv v' g' X) : ∀ k, PA c g' tv X k → w.heap.size ≤ k ∧ k < W.heap.size := by
  intro k hk
  refine ⟨?_, h.own.lt k hk⟩
  rcases hk with rfl | hk | hk | hk
  · exact h.cnew
  · exact (h.gnew k hk.symm).1
  · exact (h.told.lt k hk.symm).1
  · exact (h.x k hk).1

theorem PS.slab (h : PS w W s c L R V tv v' g' X) (ho : Own_i w W' s L' (PA c g' tv X)) (hk : Keeps (fun k => ¬ PA c g' tv X k) W W') : PS w W' s c L' R V tv v' g' X ∧ ∀ k, X k → W'.heap[k]? = W.heap[k]? :=
  ⟨⟨ho, h.ref.keep hk (fun hn => hn (.inl rfl)) (fun _ e hn => hn (.inr (.inl e.symm))), h.cnew, h.gnew, keeps_row hk h.told (fun _ e hn => hn (.inr (.inr (.inl e.symm)))), h.tc, h.x⟩, fun k hx => hk.block k (h.lt k (.inr (.inr (.inr hx)))).2 (fun hn => hn (.inr (.inr (.inr hx))))⟩

theorem PS.quiet (h : PS w W s c L R V tv v' g' X) (hk : Keeps (fun _ => False) W W') : PS w W' s c L R V tv v' g' X := by
  obtain ⟨h1, h2⟩ := h.own.quiet hk
  exact (h.slab h1 h2).1

theorem PS.less (h : PS w W s c L R V tv v' g' X) {Y : Nat → Prop} (hY : ∀ k, Y k → X k) : PS w W s c L R V tv v' g' Y :=
  ⟨h.own.mine (Keeps.refl _ W) (fun k hk => (h.lt k hk).1) (fun k hk => by
      have hh : PA c g' tv X k := hk.imp id (Or.imp id (Or.imp id (hY k)))
      exact ⟨.inl hh, (h.lt k hh).2⟩), h.ref, h.cnew, h.gnew, h.told, h.tc, fun k hk => h.x k (hY k hk)⟩

theorem PS.alloc (h : PS w W s c L R V tv v' g' X) (o : Obj) : PS w (W.alloc o) s c L R V tv v' g' (fun k => X k ∨ k = W.heap.size) := by
  have hs : (W.alloc o).heap.size = W.heap.size + 1 := by simp
  have q := h.quiet ((Keeps.refl (fun _ => False) W).alloc o)
  refine ⟨h.own.mine ((Keeps.refl _ W).alloc o) (fun k hk => (h.lt k hk).1) (fun k hk => ?_), q.ref, h.cnew, h.gnew, q.told, h.tc, fun k hk => ?_⟩
  · rw [hs]
    rcases hk with hk | hk | hk | hk | hk
    · exact ⟨.inl (.inl hk), by have := (h.lt k (.inl hk)).2; omega⟩
    · exact ⟨.inl (.inr (.inl hk)), by have := (h.lt k (.inr (.inl hk))).2; omega⟩
    · exact ⟨.inl (.inr (.inr (.inl hk))), by have := (h.lt k (.inr (.inr (.inl hk)))).2; omega⟩
    · exact ⟨.inl (.inr (.inr (.inr hk))), by have := (h.lt k (.inr (.inr (.inr hk)))).2; omega⟩
    · exact ⟨.inr (by omega), by omega⟩
  · rcases hk with hk | rfl
    · exact h.x k hk
    · have e0 := h.own.keeps.size
      have e1 := (h.lt c (.inl rfl)).2
      exact ⟨e0, by omega, fun e => by have := (h.lt _ (.inr (.inl e))).2; omega, fun e => by have := (h.lt _ (.inr (.inr (.inl e)))).2; omega⟩

/-- the document's slab, and back. -/
theorem PS.doc (h : PS w W s c L R V tv v' g' X) : ∃ RA, OwnR w W c R RA ∧ ∀ W' R', OwnR w W' c R' RA → Keeps (fun k => ¬ RA k) W W' → ∃ v'' g'', PS w W' s c L R' V tv v'' g'' X ∧ ∀ k, X k → W'.heap[k]? = W.heap[k]? := by
  obtain ⟨⟨v, g, low, h1, h2⟩, h3, h4, h5, h6⟩ := h.own
  have hsl := (Array.getElem?_eq_some_iff.1 h1.cell).1
  have hcs : c ≠ s := by rintro rfl; exact h4 (.inl rfl)
  refine ⟨fun k => k = s ∨ some k = g ∨ some k = tv.ownBlock ∨ X k, ⟨⟨v', g', h.ref, fun k e => ⟨(h.gnew k e).1, fun hh => ?_, h6 k (.inr (.inl e.symm))⟩⟩, h.cnew, fun hh => ?_, h5, fun k hh => ?_⟩, fun W' R' ho hk => ?_⟩
  · rcases hh with rfl | hh | hh | hh
    · exact h4 (.inr (.inl e.symm))
    · exact (h2 k hh.symm).2.1 (.inr (.inl e.symm))
    · exact (h.gnew k e).2 hh
    · exact (h.x k hh).2.2.1 e.symm
  · rcases hh with rfl | hh | hh | hh
    · exact hcs rfl
    · exact (h2 c hh.symm).2.1 (.inl rfl)
    · exact h.tc hh
    · exact (h.x c hh).2.1 rfl
  · rcases hh with rfl | hh | hh | hh
    · exact hsl
    · exact (h2 k hh.symm).2.2
    · exact h6 k (.inr (.inr (.inl hh)))
    · exact h6 k (.inr (.inr (.inr hh)))
  · obtain ⟨⟨v'', g'', q1, q2⟩, q3, q4, q5, q6⟩ := ho
    refine ⟨v'', g'', ⟨⟨⟨v, g, low, h1.keep hk (fun hn => hn (.inl rfl)) (fun k e hn => hn (.inr (.inl e.symm))), fun k e => ⟨(h2 k e).1, fun hh => ?_, q6 k (.inr (.inl e.symm))⟩⟩, h3, fun hh => ?_, q5, fun k hh => ?_⟩, q1, h.cnew, fun k e => ⟨(q2 k e).1, fun e' => (q2 k e).2.1 (.inr (.inr (.inl e')))⟩, keeps_row hk h.told (fun k e hn => hn (.inr (.inr (.inl e.symm)))), h.tc, fun k hx => ⟨(h.x k hx).1, (h.x k hx).2.1, fun e => (q2 k e.symm).2.1 (.inr (.inr (.inr hx))), (h.x k hx).2.2.2⟩⟩, fun k hx => hk.block k (h6 k (.inr (.inr (.inr hx)))) (fun hn => hn (.inr (.inr (.inr hx))))⟩
    · rcases hh with rfl | hh | hh | hh
      · exact (h2 k e).2.1 (.inl rfl)
      · exact (q2 k hh.symm).2.1 (.inr (.inl e.symm))
      · exact (h2 k e).2.1 (.inr (.inr (.inl hh)))
      · exact (h2 k e).2.1 (.inr (.inr (.inr hh)))
    · rcases hh with hh | hh | hh | hh
      · exact hcs hh.symm
      · exact (q2 s hh.symm).2.1 (.inl rfl)
      · exact h4 (.inr (.inr (.inl hh)))
      · exact h4 (.inr (.inr (.inr hh)))
    · rcases hh with rfl | hh | hh | hh
      · exact (Array.getElem?_eq_some_iff.1 q1.cell).1
      · exact (q2 k hh.symm).2.2
      · exact q6 k (.inr (.inr (.inl hh)))
      · exact q6 k (.inr (.inr (.inr hh)))

theorem PS.push (h : PS w W s c L R V tv v' g' X) {o : Obj} {u : Value} {a : Nat × Nat} (hown : W'.ownsRow w.heap.size 27 2 u (V.length + 1) (hc V ++ [.int .i64 a.1, .int .i64 a.2])) (hgr : (W.alloc o).grownBy W' tv.ownBlock) (hloc : u.ownBlock = tv.ownBlock ∨ u.ownBlock = some (W.alloc o).heap.size) :
    PS w W' s c L R (V ++ [a]) u v' g' X ∧ ∀ k, X k → W'.heap[k]? = W.heap[k]? := by
  have KA : Keeps (fun k => some k = tv.ownBlock) W W' := ((Keeps.refl _ W).alloc o).grown hgr (fun k e => .inl e.symm)
  obtain ⟨⟨v, g, low, h1, h2⟩, h3, h4, h5, h6⟩ := h.own
  have hfresh : ∀ k, k < W.heap.size → some k ≠ tv.ownBlock → some k ≠ u.ownBlock := by
    intro k hk hn e
    rcases hloc with hl | hl
    · exact hn (by rw [← hl]; exact e)
    · rw [hl] at e; simp at e; omega
  have hsl := (Array.getElem?_eq_some_iff.1 h1.cell).1
  have hsn : some s ≠ tv.ownBlock := fun e => h4 (.inr (.inr (.inl e)))
  have hg'l : ∀ k, g' = some k → k < W.heap.size := fun k e => h6 k (.inr (.inl e.symm))
  have hxl : ∀ k, X k → k < W.heap.size := fun k e => h6 k (.inr (.inr (.inr e)))
  refine ⟨⟨⟨⟨v, g, low, h1.keep KA hsn (fun k e e' => (h2 k e).2.1 (.inr (.inr (.inl e')))), fun k e => ⟨(h2 k e).1, fun hh => ?_, Nat.lt_of_lt_of_le (h2 k e).2.2 KA.size⟩⟩, h3, fun hh => ?_, h5.then_ KA fun i hi e => ?_, fun k hh => ?_⟩, h.ref.keep KA h.tc (fun k e => (h.gnew k e).2), h.cnew, fun k e => ⟨(h.gnew k e).1, hfresh k (hg'l k e) (h.gnew k e).2⟩, ?_, hfresh c (h6 c (.inl rfl)) h.tc, fun k hx => ⟨(h.x k hx).1, (h.x k hx).2.1, (h.x k hx).2.2.1, hfresh k (hxl k hx) (h.x k hx).2.2.2⟩⟩, fun k hx => KA.block k (hxl k hx) (h.x k hx).2.2.2⟩
  · rcases hh with rfl | hh | hh | hh
    · exact (h2 k e).2.1 (.inl rfl)
    · exact (h2 k e).2.1 (.inr (.inl hh))
    · exact hfresh k (h2 k e).2.2 (fun e' => (h2 k e).2.1 (.inr (.inr (.inl e')))) hh
    · exact (h2 k e).2.1 (.inr (.inr (.inr hh)))
  · rcases hh with hh | hh | hh | hh
    · exact h4 (.inl hh)
    · exact h4 (.inr (.inl hh))
    · exact hfresh s hsl hsn hh
    · exact h4 (.inr (.inr (.inr hh)))
  · have := h.told.lt i e.symm; omega
  · rcases hh with rfl | hh | hh | hh
    · exact Nat.lt_of_lt_of_le (h6 k (.inl rfl)) KA.size
    · exact Nat.lt_of_lt_of_le (hg'l k hh.symm) KA.size
    · exact (hown.lt k hh.symm).2
    · exact Nat.lt_of_lt_of_le (hxl k hh) KA.size
  · rw [hc_app, List.length_append]; exact hown

/-- a store into a box. -/
theorem PS.box (h : PS w W s c L R V tv v' g' X) {b : Nat} (hk : Keeps (fun k => k = b) W W') (hb : X b) : PS w W' s c L R V tv v' g' X := by
  obtain ⟨⟨v, g, low, h1, h2⟩, h3, h4, h5, h6⟩ := h.own
  have hx := h.x b hb
  have ns : ¬ s = b := by rintro rfl; exact h4 (.inr (.inr (.inr hb)))
  have ng : ∀ k, g = some k → ¬ k = b := by
    rintro k e rfl
    exact (h2 k e).2.1 (.inr (.inr (.inr hb)))
  exact ⟨⟨⟨v, g, low, h1.keep hk ns ng, fun k e => ⟨(h2 k e).1, (h2 k e).2.1, Nat.lt_of_lt_of_le (h2 k e).2.2 hk.size⟩⟩, h3, h4, h5.then_ hk (fun i hi e => by omega), fun k hh => Nat.lt_of_lt_of_le (h6 k hh) hk.size⟩, h.ref.keep hk (Ne.symm hx.2.1) (fun k e e' => hx.2.2.1 (by rw [← e', e])), h.cnew, h.gnew, keeps_row hk h.told (fun k e e' => hx.2.2.2 (by rw [← e', e])), h.tc, h.x⟩

theorem PS.start (ho : Own_i w W s [] (fun _ => False)) : PS w (W.alloc (.cells #[.slice none 0 0] 39)) s W.heap.size [] [] [] (.slice none 0 0) (.slice none 0 0) none (fun _ => False) := by
  refine ⟨ho.mine ((Keeps.refl _ W).alloc _) (by simp) (fun k hk => ?_), ⟨heap_alloc_new W _, .none_ rfl, by simp, by simp⟩, ho.keeps.size, by simp, World.ownsRow_nil .., by simp [Value.ownBlock], by simp⟩
  rcases hk with rfl | hk | hk | hk
  · exact ⟨.inr (Nat.le_refl _), by simp⟩
  · simp at hk
  · simp [Value.ownBlock] at hk
  · exact hk.elim
end
end Go.Proofs.Ytnhcejbgkhhijaa
