/- SlabGathers: what the caller owns while it builds its slabs. -/
import Derived.Test.YtnhcejbgkhhijaaGatherW
import Derived.Test.YtnhcejbgkhhijaaRef4
namespace Go.Proofs.Ytnhcejbgkhhijaa
open Go.RowKit Go.Pairs

/-- the caller's blocks. -/
def bl (F : Nat → Prop) (av wv : Value) : Nat → Prop := fun k => F k ∨ some k = av.ownBlock ∨ some k = wv.ownBlock

structure GS (w W : World) (F : Nat → Prop) (qs ps : List (Option (Nat × List Cl))) (zs : List Int) (av wv : Value) : Prop where
  keeps : Keeps (fun _ => False) w W
  all : W.ownsRow w.heap.size 23 1 av ps.length (ps.map pv)
  want : W.ownsRow w.heap.size 3 1 wv zs.length (ints zs)
  apart : ∀ k, av.ownBlock = some k → wv.ownBlock ≠ some k
  slabs : ∀ c L, some (c, L) ∈ qs → L.length ≤ 1000 ∧ F c ∧ ∃ v g low, SL_i W c v g L low ∧ ∀ k, g = some k → F k
  fin : ∀ k, F k → w.heap.size ≤ k ∧ k < W.heap.size ∧ some k ≠ av.ownBlock ∧ some k ≠ wv.ownBlock

section
variable {w W W' : World} {F : Nat → Prop} {qs ps : List (Option (Nat × List Cl))} {zs : List Int} {av wv : Value}

theorem GS.bl (h : GS w W F qs ps zs av wv) : ∀ k, bl F av wv k → w.heap.size ≤ k ∧ k < W.heap.size := by
  rintro k (hk | hk | hk)
  · have := h.fin k hk; omega
  · exact h.all.lt k hk.symm
  · exact h.want.lt k hk.symm

theorem GS.step (h : GS w W F qs ps zs av wv) (hK : Keeps (fun _ => False) w W') (hk : Keeps (fun k => ¬ Go.Proofs.Ytnhcejbgkhhijaa.bl F av wv k) W W') : GS w W' F qs ps zs av wv := by
  refine ⟨hK, keeps_row hk h.all fun _ e hn => hn (.inr (.inl e.symm)), keeps_row hk h.want fun _ e hn => hn (.inr (.inr e.symm)), h.apart, fun c L hm => ?_, fun k hF => ?_⟩
  · obtain ⟨h1, h2, v, g, low, h3, h4⟩ := h.slabs c L hm
    exact ⟨h1, h2, v, g, low, h3.keep hk (fun hn => hn (.inl h2)) (fun k e hn => hn (.inl (h4 k e))), h4⟩
  · obtain ⟨h1, h2, h3⟩ := h.fin k hF
    exact ⟨h1, Nat.lt_of_lt_of_le h2 hk.size, h3⟩

theorem GS.quiet (h : GS w W F qs ps zs av wv) (hk : Keeps (fun _ => False) W W') : GS w W' F qs ps zs av wv :=
  h.step (h.keeps.trans hk) (hk.mono fun _ _ h => h.elim)

theorem GS.add (h : GS w W F qs ps zs av wv) {s : Nat} {L : List Cl} (ho : Own_i w W s L (Go.Proofs.Ytnhcejbgkhhijaa.bl F av wv)) (hL : L.length ≤ 1000) : ∃ F', GS w W F' (qs ++ [some (s, L)]) ps zs av wv := by
  obtain ⟨⟨v, g, low, h1, h2⟩, h3, h4, h5, h6⟩ := ho
  have hs := (Array.getElem?_eq_some_iff.1 h1.cell).1
  refine ⟨fun k => F k ∨ k = s ∨ g = some k, h.keeps, h.all, h.want, h.apart, fun c M hm => ?_, fun k hF => ?_⟩
  · rcases List.mem_append.1 hm with hm | hm
    · obtain ⟨g1, g2, v', g', low', g3, g4⟩ := h.slabs c M hm
      exact ⟨g1, .inl g2, v', g', low', g3, fun k e => .inl (g4 k e)⟩
    · obtain ⟨rfl, rfl⟩ : c = s ∧ M = L := by simpa using hm
      exact ⟨hL, .inr (.inl rfl), v, g, low, h1, fun k e => .inr (.inr e)⟩
  · rcases hF with hF | rfl | hF
    · exact h.fin k hF
    · exact ⟨h3, hs, fun e => h4 (.inr (.inl e)), fun e => h4 (.inr (.inr e))⟩
    · obtain ⟨g1, g2, g3⟩ := h2 k hF
      exact ⟨g1, g3, fun e => g2 (.inr (.inl e)), fun e => g2 (.inr (.inr e))⟩

theorem GS.wantpush (h : GS w W F qs ps zs av wv) {o : Obj} {v' : Value} {z : Int} (hown : W'.ownsRow w.heap.size 3 1 v' (zs.length + 1) (ints zs ++ [.int .i64 z])) (hgr : (W.alloc o).grownBy W' wv.ownBlock) (hloc : v'.ownBlock = wv.ownBlock ∨ v'.ownBlock = some (W.alloc o).heap.size) :
    GS w W' F qs ps (zs ++ [z]) av v' ∧ Keeps (fun k => some k = wv.ownBlock) W W' := by
  have KA : Keeps (fun k => some k = wv.ownBlock) W W' := ((Keeps.refl _ W).alloc o).grown hgr (fun k e => .inl e.symm)
  have hf : ∀ k, F k → ¬ some k = wv.ownBlock := fun k hF => (h.fin k hF).2.2.2
  refine ⟨⟨h.keeps.then_ KA fun i hi e => ?_, keeps_row KA h.all fun k e e' => h.apart k e e'.symm, ?_, fun k e e' => ?_, fun c L hm => ?_, fun k hF => ?_⟩, KA⟩
  · have := h.want.lt i e.symm; omega
  · rw [ints_snoc, List.length_append]; exact hown
  · rcases hloc with hl | hl
    · exact h.apart k e (by rw [← hl]; exact e')
    · rw [e'] at hl; have := h.all.lt k e; simp at hl; omega
  · obtain ⟨g1, g2, v', g', low', g3, g4⟩ := h.slabs c L hm
    exact ⟨g1, g2, v', g', low', g3.keep KA (hf c g2) (fun k e => hf k (g4 k e)), g4⟩
  · obtain ⟨g1, g2, g3, g4⟩ := h.fin k hF
    refine ⟨g1, Nat.lt_of_lt_of_le g2 KA.size, g3, fun e => ?_⟩
    rcases hloc with hl | hl
    · exact g4 (by rw [← hl]; exact e)
    · rw [hl] at e; simp at e; omega

theorem GS.allpush (h : GS w W F qs ps zs av wv) {o : Obj} {v' : Value} {rs : List (Option (Nat × List Cl))} (hown : W'.ownsRow w.heap.size 23 1 v' (ps.length + rs.length) (ps.map pv ++ rs.map pv)) (hgr : (W.alloc o).grownBy W' av.ownBlock) (hloc : v'.ownBlock = av.ownBlock ∨ v'.ownBlock = some (W.alloc o).heap.size) :
    GS w W' F qs (ps ++ rs) zs v' wv := by
  have KA : Keeps (fun k => some k = av.ownBlock) W W' := ((Keeps.refl _ W).alloc o).grown hgr (fun k e => .inl e.symm)
  have hf : ∀ k, F k → ¬ some k = av.ownBlock := fun k hF => (h.fin k hF).2.2.1
  refine ⟨h.keeps.then_ KA fun i hi e => ?_, ?_, keeps_row KA h.want fun k e e' => h.apart k e'.symm e, fun k e e' => ?_, fun c L hm => ?_, fun k hF => ?_⟩
  · have := h.all.lt i e.symm; omega
  · rw [List.map_append, List.length_append]; exact hown
  · rcases hloc with hl | hl
    · exact h.apart k (by rw [← hl]; exact e) e'
    · rw [e] at hl; have := h.want.lt k e'; simp at hl; omega
  · obtain ⟨g1, g2, v', g', low', g3, g4⟩ := h.slabs c L hm
    exact ⟨g1, g2, v', g', low', g3.keep KA (hf c g2) (fun k e => hf k (g4 k e)), g4⟩
  · obtain ⟨g1, g2, g3, g4⟩ := h.fin k hF
    refine ⟨g1, Nat.lt_of_lt_of_le g2 KA.size, fun e => ?_, g4⟩
    rcases hloc with hl | hl
    · exact g3 (by rw [← hl]; exact e)
    · rw [hl] at e; simp at e; omega

theorem GS.lessq (h : GS w W F qs ps zs av wv) {rs : List (Option (Nat × List Cl))} (hq : ∀ c L, some (c, L) ∈ rs → some (c, L) ∈ qs) : GS w W F rs ps zs av wv :=
  ⟨h.keeps, h.all, h.want, h.apart, fun c L hm => h.slabs c L (hq c L hm), h.fin⟩

theorem GS.start (w : World) : GS w w (fun _ => False) [] [] [] (.slice none 0 0) (.slice none 0 0) :=
  ⟨Keeps.refl _ _, World.ownsRow_nil .., World.ownsRow_nil .., by simp [Value.ownBlock], by simp, by simp⟩
end

/-- a slice of slices of ints, in the walk's words. -/
def IsII (w : World) (ao : Option Addr) (len : Nat) (U : Nat → Option Addr) (M C : Nat → Nat) (Z : Nat → Nat → Int) : Prop :=
  ∀ i, i < len → M i ≤ maxLen ∧ (∃ b off, ao = some ⟨b, off, none⟩ ∧ w.cell? ⟨b, off + i, none⟩ = some (.slice (U i) (M i) (C i))) ∧
    ∀ j, j < M i → ∃ b off, U i = some ⟨b, off, none⟩ ∧ w.cell? ⟨b, off + j, none⟩ = some (.int .i64 (Z i j))
end Go.Proofs.Ytnhcejbgkhhijaa
