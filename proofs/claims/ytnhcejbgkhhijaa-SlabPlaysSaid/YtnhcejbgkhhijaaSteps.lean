/- The slab's methods, in the words that a loop over All wants. -/
import Derived.Test.YtnhcejbgkhhijaaIter
import Derived.Test.YtnhcejbgkhhijaaOnceS
namespace Go.Proofs.Ytnhcejbgkhhijaa
open Go.RowKit Go.Pairs

/-- what a step of the caller's keeps, that touches the slab and no block of A. -/
structure Step (A : Nat → Prop) (c : Nat) (W W' : World) : Prop where
  keeps : Keeps (fun k => ¬ A k) W W'
  kp : Kp c W W'
  others : KeepsOthers W W'

theorem rowOf_sl {W : World} {c : Nat} {v : Value} {g : Option Nat} {L : List Cl} {low : Nat} (h : SL_i W c v g L low) : rowOf W c = g := by
  have := cells_at h.cell 0
  unfold rowOf
  rw [this]
  exact (row_owns h.row).2.1

theorem kp_of_keeps {S : Nat → Prop} {c : Nat} {W W' : World} (h : Keeps S W W') (hc : ¬ S c) (hcl : c < W.heap.size) (hS : ∀ k cs, W.heap[k]? = some (.cells cs 61 (0, 0)) → ¬ S k) : Kp c W W' :=
  ⟨h.size, fun k cs h1 h2 => ⟨(h.block k (Array.getElem?_eq_some_iff.1 h1).1 (hS k cs h1)).trans h1, by rw [rowOf_of (h.block c hcl hc)]; exact h2⟩⟩

theorem others_of_keeps {S : Nat → Prop} {W W' : World} (h : Keeps S W W') (hS : ∀ k o, S k → W.heap[k]? = some o → o.isCells = true) : KeepsOthers W W' :=
  ⟨h.size, fun k o h1 h2 => (h.block k (Array.getElem?_eq_some_iff.1 h1).1 (fun hs => by rw [hS k o hs h1] at h2; simp at h2)).trans h1⟩

theorem sl_cells {W : World} {c : Nat} {v : Value} {g : Option Nat} {L : List Cl} {low : Nat} (h : SL_i W c v g L low) {k : Nat} (hk : k = c ∨ some k = g) {o : Obj} (ho : W.heap[k]? = some o) : o.isCells = true := by
  rcases hk with rfl | hk
  · rw [h.cell] at ho; cases ho; rfl
  · subst hk
    cases h.row with
    | row k cap cur h1 h2 => rw [h2] at ho; cases ho; rfl

theorem kp_did {W W' : World} {c : Nat} {v : Value} {g : Option Nat} {L L' : List Cl} {low : Nat} (h : SL_i W c v g L low) (hd : Did_i W c g L' W') : Kp c W W' ∧ KeepsOthers W W' := by
  obtain ⟨v', g', low', q1, q2, q3⟩ := hd
  refine ⟨⟨q3.size, fun k cs h1 h2 => ?_⟩, others_of_keeps q3 fun k o hk ho => sl_cells h hk ho⟩
  rw [rowOf_sl h] at h2
  have hkl := (Array.getElem?_eq_some_iff.1 h1).1
  refine ⟨(q3.block k hkl ?_).trans h1, ?_⟩
  · rintro (rfl | e)
    · rw [h.cell] at h1; simp at h1
    · exact h2 e.symm
  · rw [rowOf_sl q1]
    rcases q2 with q2 | ⟨k', q2, q2'⟩
    · rw [q2]; exact h2
    · rw [q2]; simp; omega

theorem put_len (L : List Cl) (z x : Value) : (putL L z x).length ≤ L.length + 1 := by
  obtain ⟨P, hF, -⟩ := fill_any L z x
  rw [hF.put]
  simpa using hF.len

theorem put_gens {L : List Cl} {M : Nat} (h : ∀ d ∈ L, d.gen ≤ M) (z x : Value) : ∀ d ∈ putL L z x, d.gen ≤ M + 1 := by
  obtain ⟨P, hF, -⟩ := fill_any L z x
  rw [hF.put]
  have hP : ∀ d ∈ P, d.gen ≤ M := by
    intro d hd
    rcases hF.els d hd with h' | h'
    · exact h d h'
    · rw [h']; exact Nat.zero_le _
  intro d hd
  rcases List.mem_or_eq_of_mem_set hd with hd | hd
  · have := hP d hd; omega
  · rw [hd]
    have := hP _ (List.getElem_mem hF.lt)
    show _ + 1 ≤ _
    omega

theorem set_gens {L : List Cl} {M i : Nat} (h : ∀ d ∈ L, d.gen ≤ M) (hi : i < L.length) (b : Bool) (x : Value) : ∀ d ∈ L.set i ⟨L[i].gen, b, x⟩, d.gen ≤ M := by
  intro d hd
  rcases List.mem_or_eq_of_mem_set hd with hd | hd
  · exact h d hd
  · rw [hd]; show L[i].gen ≤ M; exact h L[i] (List.getElem_mem hi)

section
variable {w W W' : World} {c : Nat} {L L' : List Cl} {A : Nat → Prop}

theorem Own_i.slt (h : Own_i w W c L A) : c < W.heap.size := by
  obtain ⟨v, g, low, h1, -⟩ := h.slab
  exact (Array.getElem?_eq_some_iff.1 h1.cell).1

theorem Own_i.still (h : Own_i w W c L A) (hk : Keeps (fun _ => False) W W') : Own_i w W' c L A ∧ Step A c W W' := by
  obtain ⟨h1, h2⟩ := h.quiet hk
  exact ⟨h1, h2, kp_of_keeps hk (by simp) h.slt (by simp), others_of_keeps hk (fun _ _ h => h.elim)⟩

theorem Own_i.turn (h : Own_i w W c L A) {row : Option Nat} (hg : W.grownBy W' row) (hr : ∀ r, row = some r → w.heap.size ≤ r ∧ ∃ o : Obj, W.heap[r]? = some o ∧ o.isCells = false) : Own_i w W' c L A := by
  obtain ⟨⟨v, g, low, h1, h2⟩, h3, h4, h5, h6⟩ := h
  have K : Keeps (fun k => some k = row) W W' := (Keeps.refl _ _).grown hg (fun k e => .inl e.symm)
  have hn : ∀ k, k = c ∨ some k = g → ¬ some k = row := by
    intro k hk e
    obtain ⟨-, o, ho, hc⟩ := hr k e.symm
    rw [sl_cells h1 hk ho] at hc
    simp at hc
  exact ⟨⟨v, g, low, h1.keep K (hn c (.inl rfl)) (fun k e => hn k (.inr e.symm)), fun k e => ⟨(h2 k e).1, (h2 k e).2.1, Nat.lt_of_lt_of_le (h2 k e).2.2 K.size⟩⟩, h3, h4, h5.then_ K (fun i hi e => by have := (hr i e.symm).1; omega), fun k hk => Nat.lt_of_lt_of_le (h6 k hk) K.size⟩

theorem anyput (h : Own_i w W c L A) (hgen : ∀ d ∈ L, d.gen ≤ 1000000) (hlen : L.length + 1 ≤ 1000000) (x : Int) :
    Calls Try.prog 8 #[.pointer (some ⟨c, 0, none⟩), .int .i64 x] W fun e w' => e = .returned (.agg #[.int .i64 (ff L), .int .i64 (putG L)]) ∧ Own_i w w' c (putL L (.int .i64 0) (.int .i64 x)) A ∧ Step A c W w' := by
  obtain ⟨v, g, low, h1, h2⟩ := h.slab
  refine (put_i h1 hgen hlen x).mono ?_
  rintro e W' ⟨rfl, hd⟩
  obtain ⟨o1, o2⟩ := Own_i.did' h1 h2 h.new h.ac h.keeps h.lt hd
  obtain ⟨k1, k2⟩ := kp_did h1 hd
  exact ⟨rfl, o1, o2, k1, k2⟩

theorem anydrop (h : Own_i w W c L A) (s n : Int) :
    Calls Try.prog 9 #[.pointer (some ⟨c, 0, none⟩), .agg #[.int .i64 s, .int .i64 n]] W fun e w' => (∃ x ok, e = .returned (.tuple #[.int .i64 x, .bool ok])) ∧ ∃ L', Own_i w w' c L' A ∧ L'.length = L.length ∧ (∀ M, (∀ d ∈ L, d.gen ≤ M) → ∀ d ∈ L', d.gen ≤ M) ∧ Step A c W w' := by
  obtain ⟨v, g, low, h1, h2⟩ := h.slab
  by_cases hit : ∃ i, Hit L s n i
  · obtain ⟨i, hi⟩ := hit
    have hil := hi.1
    refine (dropyes_i h1 s n i hil hi).mono ?_
    rintro e W' ⟨rfl, hd⟩
    obtain ⟨o1, o2⟩ := Own_i.did' h1 h2 h.new h.ac h.keeps h.lt hd
    obtain ⟨k1, k2⟩ := kp_did h1 hd
    obtain ⟨x, hx⟩ := h1.els L[i] (List.getElem_mem hil)
    exact ⟨⟨x, true, by rw [hx]⟩, _, o1, by simp, fun M hM => set_gens hM hil _ _, o2, k1, k2⟩
  · refine (dropno_i h1 s n (fun i hi => hit ⟨i, hi⟩)).mono ?_
    rintro e W' ⟨rfl, hd⟩
    obtain ⟨o1, o2⟩ := h.still hd
    exact ⟨⟨0, false, rfl⟩, L, o1, rfl, fun M hM => hM, o2⟩

theorem anyset (h : Own_i w W c L A) (s n x : Int) :
    Calls Try.prog 11 #[.pointer (some ⟨c, 0, none⟩), .agg #[.int .i64 s, .int .i64 n], .int .i64 x] W fun e w' => (∃ ok, e = .returned (.bool ok)) ∧ ∃ L', Own_i w w' c L' A ∧ L'.length = L.length ∧ (∀ M, (∀ d ∈ L, d.gen ≤ M) → ∀ d ∈ L', d.gen ≤ M) ∧ Step A c W w' := by
  obtain ⟨v, g, low, h1, h2⟩ := h.slab
  by_cases hit : ∃ i, Hit L s n i
  · obtain ⟨i, hi⟩ := hit
    have hil := hi.1
    refine (setyes_i h1 s n i hil hi x).mono ?_
    rintro e W' ⟨rfl, hd⟩
    obtain ⟨o1, o2⟩ := Own_i.did' h1 h2 h.new h.ac h.keeps h.lt hd
    obtain ⟨k1, k2⟩ := kp_did h1 hd
    exact ⟨⟨true, rfl⟩, _, o1, by simp, fun M hM => set_gens hM hil _ _, o2, k1, k2⟩
  · refine (setno_i h1 s n x (fun i hi => hit ⟨i, hi⟩)).mono ?_
    rintro e W' ⟨rfl, hd⟩
    obtain ⟨o1, o2⟩ := h.still hd
    exact ⟨⟨false, rfl⟩, L, o1, rfl, fun M hM => hM, o2⟩
end
end Go.Proofs.Ytnhcejbgkhhijaa
