/- A slab that the caller owns, beside the caller's own blocks. -/
import Derived.Test.YtnhcejbgkhhijaaPut
namespace Go.Proofs.Ytnhcejbgkhhijaa
open Go.RowKit Go.Pairs

/-- block c is the caller's slab, apart from the blocks A. -/
structure Own_i (w W : World) (c : Nat) (L : List Cl) (A : Nat → Prop) : Prop where
  slab : ∃ v g low, SL_i W c v g L low ∧ ∀ k, g = some k → w.heap.size ≤ k ∧ ¬ A k ∧ k < W.heap.size
  new : w.heap.size ≤ c
  ac : ¬ A c
  keeps : Keeps (fun _ => False) w W
  lt : ∀ k, A k → k < W.heap.size

theorem Own_i.mine {w W W' : World} {c : Nat} {L : List Cl} {A A' : Nat → Prop} (h : Own_i w W c L A) (hk : Keeps A W W') (hA : ∀ k, A k → w.heap.size ≤ k) (hA' : ∀ k, A' k → (A k ∨ W.heap.size ≤ k) ∧ k < W'.heap.size) : Own_i w W' c L A' := by
  obtain ⟨⟨v, g, low, h1, h2⟩, h3, h4, h5, h6⟩ := h
  have hc := (Array.getElem?_eq_some_iff.1 h1.cell).1
  refine ⟨⟨v, g, low, h1.keep hk h4 (fun k e => (h2 k e).2.1), fun k e => ⟨(h2 k e).1, fun hh => ?_, Nat.lt_of_lt_of_le (h2 k e).2.2 hk.size⟩⟩, h3, fun hh => ?_, h5.then_ hk (fun i hi hh => by have := hA i hh; omega), fun k hh => (hA' k hh).2⟩
  · rcases (hA' k hh).1 with h | h
    · exact (h2 k e).2.1 h
    · have := (h2 k e).2.2; omega
  · rcases (hA' c hh).1 with h | h
    · exact h4 h
    · omega

theorem Own_i.did' {w W W' : World} {c : Nat} {L L' : List Cl} {A : Nat → Prop} {v : Value} {g : Option Nat} {low : Nat} (_h1 : SL_i W c v g L low) (h2 : ∀ k, g = some k → w.heap.size ≤ k ∧ ¬ A k ∧ k < W.heap.size) (h3 : w.heap.size ≤ c) (h4 : ¬ A c) (h5 : Keeps (fun _ => False) w W) (h6 : ∀ k, A k → k < W.heap.size) (hd : Did_i W c g L' W') : Own_i w W' c L' A ∧ Keeps (fun k => ¬ A k) W W' := by
  obtain ⟨v', g', low', q1, q2, q3⟩ := hd
  have hlt : ∀ k, g' = some k → k < W'.heap.size := by
    intro k e
    subst e
    cases q1.row with
    | row k cap cur p1 p2 => exact (Array.getElem?_eq_some_iff.1 p2).1
  refine ⟨⟨⟨v', g', low', q1, fun k e => ?_⟩, h3, h4, ?_, fun k hh => Nat.lt_of_lt_of_le (h6 k hh) q3.size⟩, ?_⟩
  · rcases q2 with q2 | ⟨k', q2, q2'⟩
    · have := h2 k (by rw [← q2]; exact e)
      exact ⟨this.1, this.2.1, hlt k e⟩
    · obtain rfl : k' = k := by rw [e] at q2; simpa using q2.symm
      have := h5.size
      exact ⟨by omega, fun hh => by have := h6 _ hh; omega, hlt _ e⟩
  · refine h5.then_ q3 (fun i hi hh => ?_)
    rcases hh with rfl | hh
    · omega
    · have := h2 i hh.symm; omega
  · refine q3.mono fun k hk hh => ?_
    rcases hh with rfl | hh
    · exact h4
    · exact (h2 k hh.symm).2.1

theorem ownnew_i (w W : World) (A : Nat → Prop) (hK : Keeps (fun _ => False) w W) (hA : ∀ k, A k → k < W.heap.size) :
    Calls Try.prog 7 #[] W fun e w' => e = .returned (.pointer (some ⟨W.heap.size, 0, none⟩)) ∧ Own_i w w' W.heap.size [] A ∧ Keeps (fun k => ¬ A k) W w' := by
  refine (new_i W).mono ?_
  rintro e W' ⟨rfl, h1, h2, h3⟩
  exact ⟨rfl, ⟨⟨_, none, 0, h1, by simp⟩, hK.size, fun h => by have := hA _ h; omega, hK.trans h2, fun k h => by have := hA k h; omega⟩, h2.mono (fun _ _ h => h.elim)⟩

theorem ownput_i {w W : World} {c : Nat} {L : List Cl} {A : Nat → Prop} (h : Own_i w W c L A) (hgen : ∀ d ∈ L, d.gen ≤ 1000000) (hlen : L.length + 1 ≤ 1000000) (x : Int) :
    Calls Try.prog 8 #[.pointer (some ⟨c, 0, none⟩), Value.int .i64 x] W fun e w' => e = .returned (.agg #[.int .i64 (ff L), .int .i64 (putG L)]) ∧ Own_i w w' c (putL L (.int .i64 0) (Value.int .i64 x)) A ∧ Keeps (fun k => ¬ A k) W w' := by
  obtain ⟨v, g, low, h1, h2⟩ := h.slab
  refine (put_i h1 hgen hlen x).mono ?_
  rintro e W' ⟨rfl, hd⟩
  exact ⟨rfl, Own_i.did' h1 h2 h.new h.ac h.keeps h.lt hd⟩

theorem owndrop_i {w W : World} {c : Nat} {L : List Cl} {A : Nat → Prop} (h : Own_i w W c L A) (s n : Int) (i : Nat) (hi : i < L.length) (hit : Hit L s n i) :
    Calls Try.prog 9 #[.pointer (some ⟨c, 0, none⟩), .agg #[.int .i64 s, .int .i64 n]] W fun e w' => e = .returned (.tuple #[L[i].x, .bool true]) ∧ Own_i w w' c (L.set i ⟨L[i].gen, false, .int .i64 0⟩) A ∧ Keeps (fun k => ¬ A k) W w' := by
  obtain ⟨v, g, low, h1, h2⟩ := h.slab
  refine (dropyes_i h1 s n i hi hit).mono ?_
  rintro e W' ⟨rfl, hd⟩
  exact ⟨rfl, Own_i.did' h1 h2 h.new h.ac h.keeps h.lt hd⟩

theorem Own_i.quiet {w W W' : World} {c : Nat} {L : List Cl} {A : Nat → Prop} (h : Own_i w W c L A) (hk : Keeps (fun _ => False) W W') : Own_i w W' c L A ∧ Keeps (fun k => ¬ A k) W W' := by
  obtain ⟨⟨v, g, low, h1, h2⟩, h3, h4, h5, h6⟩ := h
  exact ⟨⟨⟨v, g, low, h1.keep hk (by simp) (by simp), fun k e => ⟨(h2 k e).1, (h2 k e).2.1, Nat.lt_of_lt_of_le (h2 k e).2.2 hk.size⟩⟩, h3, h4, h5.trans hk, fun k hh => Nat.lt_of_lt_of_le (h6 k hh) hk.size⟩, hk.mono (fun _ _ h => h.elim)⟩

theorem owndropno_i {w W : World} {c : Nat} {L : List Cl} {A : Nat → Prop} (h : Own_i w W c L A) (s n : Int) (hno : ∀ i, ¬ Hit L s n i) :
    Calls Try.prog 9 #[.pointer (some ⟨c, 0, none⟩), .agg #[.int .i64 s, .int .i64 n]] W fun e w' => e = .returned (.tuple #[.int .i64 0, .bool false]) ∧ Own_i w w' c L A ∧ Keeps (fun k => ¬ A k) W w' := by
  obtain ⟨v, g, low, h1, h2⟩ := h.slab
  refine (dropno_i h1 s n hno).mono ?_
  rintro e W' ⟨rfl, hd⟩
  exact ⟨rfl, h.quiet hd⟩

theorem ownget_i {w W : World} {c : Nat} {L : List Cl} {A : Nat → Prop} (h : Own_i w W c L A) (s n : Int) (i : Nat) (hi : i < L.length) (hit : Hit L s n i) :
    Calls Try.prog 10 #[.pointer (some ⟨c, 0, none⟩), .agg #[.int .i64 s, .int .i64 n]] W fun e w' => e = .returned (.tuple #[L[i].x, .bool true]) ∧ Own_i w w' c L A ∧ Keeps (fun k => ¬ A k) W w' := by
  obtain ⟨v, g, low, h1, h2⟩ := h.slab
  refine (getyes_i h1 s n i hi hit).mono ?_
  rintro e W' ⟨rfl, hd⟩
  exact ⟨rfl, h.quiet hd⟩

theorem owngetno_i {w W : World} {c : Nat} {L : List Cl} {A : Nat → Prop} (h : Own_i w W c L A) (s n : Int) (hno : ∀ i, ¬ Hit L s n i) :
    Calls Try.prog 10 #[.pointer (some ⟨c, 0, none⟩), .agg #[.int .i64 s, .int .i64 n]] W fun e w' => e = .returned (.tuple #[.int .i64 0, .bool false]) ∧ Own_i w w' c L A ∧ Keeps (fun k => ¬ A k) W w' := by
  obtain ⟨v, g, low, h1, h2⟩ := h.slab
  refine (getno_i h1 s n hno).mono ?_
  rintro e W' ⟨rfl, hd⟩
  exact ⟨rfl, h.quiet hd⟩

theorem ownlen_i {w W : World} {c : Nat} {L : List Cl} {A : Nat → Prop} (h : Own_i w W c L A) :
    Calls Try.prog 12 #[.pointer (some ⟨c, 0, none⟩)] W fun e w' => e = .returned (.int .i64 (cnt L)) ∧ W = w' := by
  obtain ⟨v, g, low, h1, h2⟩ := h.slab
  exact len_i h1

theorem ownset_i {w W : World} {c : Nat} {L : List Cl} {A : Nat → Prop} (h : Own_i w W c L A) (s n : Int) (i : Nat) (hi : i < L.length) (hit : Hit L s n i) (x : Int) :
    Calls Try.prog 11 #[.pointer (some ⟨c, 0, none⟩), .agg #[.int .i64 s, .int .i64 n], .int .i64 x] W fun e w' => e = .returned (.bool true) ∧ Own_i w w' c (L.set i ⟨L[i].gen, true, .int .i64 x⟩) A ∧ Keeps (fun k => ¬ A k) W w' := by
  obtain ⟨v, g, low, h1, h2⟩ := h.slab
  refine (setyes_i h1 s n i hi hit x).mono ?_
  rintro e W' ⟨rfl, hd⟩
  exact ⟨rfl, Own_i.did' h1 h2 h.new h.ac h.keeps h.lt hd⟩

theorem ownsetno_i {w W : World} {c : Nat} {L : List Cl} {A : Nat → Prop} (h : Own_i w W c L A) (s n x : Int) (hno : ∀ i, ¬ Hit L s n i) :
    Calls Try.prog 11 #[.pointer (some ⟨c, 0, none⟩), .agg #[.int .i64 s, .int .i64 n], .int .i64 x] W fun e w' => e = .returned (.bool false) ∧ Own_i w w' c L A ∧ Keeps (fun k => ¬ A k) W w' := by
  obtain ⟨v, g, low, h1, h2⟩ := h.slab
  refine (setno_i h1 s n x hno).mono ?_
  rintro e W' ⟨rfl, hd⟩
  exact ⟨rfl, h.quiet hd⟩

/-- block c is the caller's slab, apart from the blocks A. -/
structure Own_s (w W : World) (c : Nat) (L : List Cl) (A : Nat → Prop) : Prop where
  slab : ∃ v g low, SL_s W c v g L low ∧ ∀ k, g = some k → w.heap.size ≤ k ∧ ¬ A k ∧ k < W.heap.size
  new : w.heap.size ≤ c
  ac : ¬ A c
  keeps : Keeps (fun _ => False) w W
  lt : ∀ k, A k → k < W.heap.size

theorem Own_s.mine {w W W' : World} {c : Nat} {L : List Cl} {A A' : Nat → Prop} (h : Own_s w W c L A) (hk : Keeps A W W') (hA : ∀ k, A k → w.heap.size ≤ k) (hA' : ∀ k, A' k → (A k ∨ W.heap.size ≤ k) ∧ k < W'.heap.size) : Own_s w W' c L A' := by
  obtain ⟨⟨v, g, low, h1, h2⟩, h3, h4, h5, h6⟩ := h
  have hc := (Array.getElem?_eq_some_iff.1 h1.cell).1
  refine ⟨⟨v, g, low, h1.keep hk h4 (fun k e => (h2 k e).2.1), fun k e => ⟨(h2 k e).1, fun hh => ?_, Nat.lt_of_lt_of_le (h2 k e).2.2 hk.size⟩⟩, h3, fun hh => ?_, h5.then_ hk (fun i hi hh => by have := hA i hh; omega), fun k hh => (hA' k hh).2⟩
  · rcases (hA' k hh).1 with h | h
    · exact (h2 k e).2.1 h
    · have := (h2 k e).2.2; omega
  · rcases (hA' c hh).1 with h | h
    · exact h4 h
    · omega

theorem Own_s.did' {w W W' : World} {c : Nat} {L L' : List Cl} {A : Nat → Prop} {v : Value} {g : Option Nat} {low : Nat} (_h1 : SL_s W c v g L low) (h2 : ∀ k, g = some k → w.heap.size ≤ k ∧ ¬ A k ∧ k < W.heap.size) (h3 : w.heap.size ≤ c) (h4 : ¬ A c) (h5 : Keeps (fun _ => False) w W) (h6 : ∀ k, A k → k < W.heap.size) (hd : Did_s W c g L' W') : Own_s w W' c L' A ∧ Keeps (fun k => ¬ A k) W W' := by
  obtain ⟨v', g', low', q1, q2, q3⟩ := hd
  have hlt : ∀ k, g' = some k → k < W'.heap.size := by
    intro k e
    subst e
    cases q1.row with
    | row k cap cur p1 p2 => exact (Array.getElem?_eq_some_iff.1 p2).1
  refine ⟨⟨⟨v', g', low', q1, fun k e => ?_⟩, h3, h4, ?_, fun k hh => Nat.lt_of_lt_of_le (h6 k hh) q3.size⟩, ?_⟩
  · rcases q2 with q2 | ⟨k', q2, q2'⟩
    · have := h2 k (by rw [← q2]; exact e)
      exact ⟨this.1, this.2.1, hlt k e⟩
    · obtain rfl : k' = k := by rw [e] at q2; simpa using q2.symm
      have := h5.size
      exact ⟨by omega, fun hh => by have := h6 _ hh; omega, hlt _ e⟩
  · refine h5.then_ q3 (fun i hi hh => ?_)
    rcases hh with rfl | hh
    · omega
    · have := h2 i hh.symm; omega
  · refine q3.mono fun k hk hh => ?_
    rcases hh with rfl | hh
    · exact h4
    · exact (h2 k hh.symm).2.1

theorem ownnew_s (w W : World) (A : Nat → Prop) (hK : Keeps (fun _ => False) w W) (hA : ∀ k, A k → k < W.heap.size) :
    Calls Try.prog 23 #[] W fun e w' => e = .returned (.pointer (some ⟨W.heap.size, 0, none⟩)) ∧ Own_s w w' W.heap.size [] A ∧ Keeps (fun k => ¬ A k) W w' := by
  refine (new_s W).mono ?_
  rintro e W' ⟨rfl, h1, h2, h3⟩
  exact ⟨rfl, ⟨⟨_, none, 0, h1, by simp⟩, hK.size, fun h => by have := hA _ h; omega, hK.trans h2, fun k h => by have := hA k h; omega⟩, h2.mono (fun _ _ h => h.elim)⟩

theorem ownput_s {w W : World} {c : Nat} {L : List Cl} {A : Nat → Prop} (h : Own_s w W c L A) (hgen : ∀ d ∈ L, d.gen ≤ 1000000) (hlen : L.length + 1 ≤ 1000000) (x : ByteArray) :
    Calls Try.prog 24 #[.pointer (some ⟨c, 0, none⟩), Value.string x] W fun e w' => e = .returned (.agg #[.int .i64 (ff L), .int .i64 (putG L)]) ∧ Own_s w w' c (putL L (.string ⟨#[]⟩) (Value.string x)) A ∧ Keeps (fun k => ¬ A k) W w' := by
  obtain ⟨v, g, low, h1, h2⟩ := h.slab
  refine (put_s h1 hgen hlen x).mono ?_
  rintro e W' ⟨rfl, hd⟩
  exact ⟨rfl, Own_s.did' h1 h2 h.new h.ac h.keeps h.lt hd⟩

theorem owndrop_s {w W : World} {c : Nat} {L : List Cl} {A : Nat → Prop} (h : Own_s w W c L A) (s n : Int) (i : Nat) (hi : i < L.length) (hit : Hit L s n i) :
    Calls Try.prog 25 #[.pointer (some ⟨c, 0, none⟩), .agg #[.int .i64 s, .int .i64 n]] W fun e w' => e = .returned (.tuple #[L[i].x, .bool true]) ∧ Own_s w w' c (L.set i ⟨L[i].gen, false, .string ⟨#[]⟩⟩) A ∧ Keeps (fun k => ¬ A k) W w' := by
  obtain ⟨v, g, low, h1, h2⟩ := h.slab
  refine (dropyes_s h1 s n i hi hit).mono ?_
  rintro e W' ⟨rfl, hd⟩
  exact ⟨rfl, Own_s.did' h1 h2 h.new h.ac h.keeps h.lt hd⟩

theorem Own_s.quiet {w W W' : World} {c : Nat} {L : List Cl} {A : Nat → Prop} (h : Own_s w W c L A) (hk : Keeps (fun _ => False) W W') : Own_s w W' c L A ∧ Keeps (fun k => ¬ A k) W W' := by
  obtain ⟨⟨v, g, low, h1, h2⟩, h3, h4, h5, h6⟩ := h
  exact ⟨⟨⟨v, g, low, h1.keep hk (by simp) (by simp), fun k e => ⟨(h2 k e).1, (h2 k e).2.1, Nat.lt_of_lt_of_le (h2 k e).2.2 hk.size⟩⟩, h3, h4, h5.trans hk, fun k hh => Nat.lt_of_lt_of_le (h6 k hh) hk.size⟩, hk.mono (fun _ _ h => h.elim)⟩

theorem owndropno_s {w W : World} {c : Nat} {L : List Cl} {A : Nat → Prop} (h : Own_s w W c L A) (s n : Int) (hno : ∀ i, ¬ Hit L s n i) :
    Calls Try.prog 25 #[.pointer (some ⟨c, 0, none⟩), .agg #[.int .i64 s, .int .i64 n]] W fun e w' => e = .returned (.tuple #[.string ⟨#[]⟩, .bool false]) ∧ Own_s w w' c L A ∧ Keeps (fun k => ¬ A k) W w' := by
  obtain ⟨v, g, low, h1, h2⟩ := h.slab
  refine (dropno_s h1 s n hno).mono ?_
  rintro e W' ⟨rfl, hd⟩
  exact ⟨rfl, h.quiet hd⟩

theorem ownget_s {w W : World} {c : Nat} {L : List Cl} {A : Nat → Prop} (h : Own_s w W c L A) (s n : Int) (i : Nat) (hi : i < L.length) (hit : Hit L s n i) :
    Calls Try.prog 26 #[.pointer (some ⟨c, 0, none⟩), .agg #[.int .i64 s, .int .i64 n]] W fun e w' => e = .returned (.tuple #[L[i].x, .bool true]) ∧ Own_s w w' c L A ∧ Keeps (fun k => ¬ A k) W w' := by
  obtain ⟨v, g, low, h1, h2⟩ := h.slab
  refine (getyes_s h1 s n i hi hit).mono ?_
  rintro e W' ⟨rfl, hd⟩
  exact ⟨rfl, h.quiet hd⟩

theorem owngetno_s {w W : World} {c : Nat} {L : List Cl} {A : Nat → Prop} (h : Own_s w W c L A) (s n : Int) (hno : ∀ i, ¬ Hit L s n i) :
    Calls Try.prog 26 #[.pointer (some ⟨c, 0, none⟩), .agg #[.int .i64 s, .int .i64 n]] W fun e w' => e = .returned (.tuple #[.string ⟨#[]⟩, .bool false]) ∧ Own_s w w' c L A ∧ Keeps (fun k => ¬ A k) W w' := by
  obtain ⟨v, g, low, h1, h2⟩ := h.slab
  refine (getno_s h1 s n hno).mono ?_
  rintro e W' ⟨rfl, hd⟩
  exact ⟨rfl, h.quiet hd⟩

theorem ownlen_s {w W : World} {c : Nat} {L : List Cl} {A : Nat → Prop} (h : Own_s w W c L A) :
    Calls Try.prog 27 #[.pointer (some ⟨c, 0, none⟩)] W fun e w' => e = .returned (.int .i64 (cnt L)) ∧ W = w' := by
  obtain ⟨v, g, low, h1, h2⟩ := h.slab
  exact len_s h1
end Go.Proofs.Ytnhcejbgkhhijaa
