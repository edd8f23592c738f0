/- The document's slab that the caller owns; that both slabs tell the same: plain law. -/
import Derived.Test.YtnhcejbgkhhijaaRef3
import Derived.Test.YtnhcejbgkhhijaaSteps
namespace Go.Proofs.Ytnhcejbgkhhijaa
open Go.RowKit Go.Pairs

/-- block c is the document's slab, apart from the blocks A. -/
structure OwnR (w W : World) (c : Nat) (L : List Cl) (A : Nat → Prop) : Prop where
  slab : ∃ v g, RF W c v g L ∧ ∀ k, g = some k → w.heap.size ≤ k ∧ ¬ A k ∧ k < W.heap.size
  new : w.heap.size ≤ c
  ac : ¬ A c
  keeps : Keeps (fun _ => False) w W
  lt : ∀ k, A k → k < W.heap.size

theorem OwnR.did' {w W W' : World} {c : Nat} {L L' : List Cl} {A : Nat → Prop} {v : Value} {g : Option Nat} (_h1 : RF W c v g L) (h2 : ∀ k, g = some k → w.heap.size ≤ k ∧ ¬ A k ∧ k < W.heap.size) (h3 : w.heap.size ≤ c) (h4 : ¬ A c) (h5 : Keeps (fun _ => False) w W) (h6 : ∀ k, A k → k < W.heap.size) (hd : DidR W c g L' W') : OwnR w W' c L' A ∧ Keeps (fun k => ¬ A k) W W' := by
  obtain ⟨v', g', q1, q2, q3⟩ := hd
  have hlt : ∀ k, g' = some k → k < W'.heap.size := by
    intro k e
    subst e
    cases q1.row with
    | row k cap cur p1 p2 => exact (Array.getElem?_eq_some_iff.1 p2).1
  refine ⟨⟨⟨v', g', q1, fun k e => ?_⟩, h3, h4, ?_, fun k hh => Nat.lt_of_lt_of_le (h6 k hh) q3.size⟩, ?_⟩
  · rcases q2 with q2 | ⟨k', q2, q2'⟩
    · have := h2 k (by rw [← q2]; exact e)
      exact ⟨this.1, this.2.1, hlt k e⟩
    · obtain rfl : k' = k := by rw [e] at q2; simpa using q2.symm
      have := h5.size
      exact ⟨by omega, fun hh => by have := h6 _ hh; omega, hlt _ e⟩
  · refine h5.then_ q3 (fun i hi hh => ?_)
    rcases hh with rfl | hh
    · omega
    · have := h2 i hh.symm; omega
  · refine q3.mono fun k hk hh => ?_
    rcases hh with rfl | hh
    · exact h4
    · exact (h2 k hh.symm).2.1

theorem OwnR.quiet {w W W' : World} {c : Nat} {L : List Cl} {A : Nat → Prop} (h : OwnR w W c L A) (hk : Keeps (fun _ => False) W W') : OwnR w W' c L A ∧ Keeps (fun k => ¬ A k) W W' := by
  obtain ⟨⟨v, g, h1, h2⟩, h3, h4, h5, h6⟩ := h
  exact ⟨⟨⟨v, g, h1.keep hk (by simp) (by simp), fun k e => ⟨(h2 k e).1, (h2 k e).2.1, Nat.lt_of_lt_of_le (h2 k e).2.2 hk.size⟩⟩, h3, h4, h5.trans hk, fun k hh => Nat.lt_of_lt_of_le (h6 k hh) hk.size⟩, hk.mono (fun _ _ h => h.elim)⟩

theorem OwnR.mine {w W W' : World} {c : Nat} {L : List Cl} {A A' : Nat → Prop} (h : OwnR w W c L A) (hk : Keeps A W W') (hA : ∀ k, A k → w.heap.size ≤ k) (hA' : ∀ k, A' k → (A k ∨ W.heap.size ≤ k) ∧ k < W'.heap.size) : OwnR w W' c L A' := by
  obtain ⟨⟨v, g, h1, h2⟩, h3, h4, h5, h6⟩ := h
  have hc := (Array.getElem?_eq_some_iff.1 h1.cell).1
  refine ⟨⟨v, g, h1.keep hk h4 (fun k e => (h2 k e).2.1), fun k e => ⟨(h2 k e).1, fun hh => ?_, Nat.lt_of_lt_of_le (h2 k e).2.2 hk.size⟩⟩, h3, fun hh => ?_, h5.then_ hk (fun i hi hh => by have := hA i hh; omega), fun k hh => (hA' k hh).2⟩
  · rcases (hA' k hh).1 with h | h
    · exact (h2 k e).2.1 h
    · have := (h2 k e).2.2; omega
  · rcases (hA' c hh).1 with h | h
    · exact h4 h
    · omega

theorem ownr_new {w W : World} {A : Nat → Prop} (hK : Keeps (fun _ => False) w W) (hA : ∀ k, A k → k < W.heap.size) : OwnR w (W.alloc (.cells #[.slice none 0 0] 39)) W.heap.size [] A := by
  refine ⟨⟨.slice none 0 0, none, ⟨heap_alloc_new W _, .none_ rfl, by simp, by simp⟩, by simp⟩, hK.size, fun h => by have := hA _ h; omega, hK.alloc _, fun k h => by have := hA k h; simp; omega⟩

theorem ownr_put {w W : World} {c : Nat} {L : List Cl} {A : Nat → Prop} (h : OwnR w W c L A) (hgen : ∀ d ∈ L, d.gen ≤ 1000000) (hlen : L.length + 1 ≤ 1000000) (x : Int) :
    Calls Try.prog 14 #[.pointer (some ⟨c, 0, none⟩), .int .i64 x] W fun e w' => e = .returned (.agg #[.int .i64 (ff L), .int .i64 (putG L)]) ∧ OwnR w w' c (putL L (.int .i64 0) (.int .i64 x)) A ∧ Keeps (fun k => ¬ A k) W w' := by
  obtain ⟨v, g, h1, h2⟩ := h.slab
  refine (rput h1 hgen hlen x).mono ?_
  rintro e W' ⟨rfl, hd⟩
  exact ⟨rfl, OwnR.did' h1 h2 h.new h.ac h.keeps h.lt hd⟩

theorem ownr_drop {w W : World} {c : Nat} {L : List Cl} {A : Nat → Prop} (h : OwnR w W c L A) (s n : Int) (i : Nat) (hi : i < L.length) (hit : Hit L s n i) :
    Calls Try.prog 17 #[.pointer (some ⟨c, 0, none⟩), .agg #[.int .i64 s, .int .i64 n]] W fun e w' => e = .returned (.tuple #[L[i].x, .bool true]) ∧ OwnR w w' c (L.set i ⟨L[i].gen, false, L[i].x⟩) A ∧ Keeps (fun k => ¬ A k) W w' := by
  obtain ⟨v, g, h1, h2⟩ := h.slab
  refine (rdropyes h1 s n i hi hit).mono ?_
  rintro e W' ⟨rfl, hd⟩
  exact ⟨rfl, OwnR.did' h1 h2 h.new h.ac h.keeps h.lt hd⟩

theorem ownr_dropno {w W : World} {c : Nat} {L : List Cl} {A : Nat → Prop} (h : OwnR w W c L A) (s n : Int) (hno : ∀ i, ¬ Hit L s n i) :
    Calls Try.prog 17 #[.pointer (some ⟨c, 0, none⟩), .agg #[.int .i64 s, .int .i64 n]] W fun e w' => e = .returned (.tuple #[.int .i64 0, .bool false]) ∧ OwnR w w' c (L) A ∧ Keeps (fun k => ¬ A k) W w' := by
  obtain ⟨v, g, h1, h2⟩ := h.slab
  refine (rdropno h1 s n hno).mono ?_
  rintro e W' ⟨rfl, hd⟩
  exact ⟨rfl, h.quiet hd⟩

theorem ownr_get {w W : World} {c : Nat} {L : List Cl} {A : Nat → Prop} (h : OwnR w W c L A) (s n : Int) (i : Nat) (hi : i < L.length) (hit : Hit L s n i) :
    Calls Try.prog 15 #[.pointer (some ⟨c, 0, none⟩), .agg #[.int .i64 s, .int .i64 n]] W fun e w' => e = .returned (.tuple #[L[i].x, .bool true]) ∧ OwnR w w' c (L) A ∧ Keeps (fun k => ¬ A k) W w' := by
  obtain ⟨v, g, h1, h2⟩ := h.slab
  refine (rgetyes h1 s n i hi hit).mono ?_
  rintro e W' ⟨rfl, hd⟩
  exact ⟨rfl, h.quiet hd⟩

theorem ownr_getno {w W : World} {c : Nat} {L : List Cl} {A : Nat → Prop} (h : OwnR w W c L A) (s n : Int) (hno : ∀ i, ¬ Hit L s n i) :
    Calls Try.prog 15 #[.pointer (some ⟨c, 0, none⟩), .agg #[.int .i64 s, .int .i64 n]] W fun e w' => e = .returned (.tuple #[.int .i64 0, .bool false]) ∧ OwnR w w' c (L) A ∧ Keeps (fun k => ¬ A k) W w' := by
  obtain ⟨v, g, h1, h2⟩ := h.slab
  refine (rgetno h1 s n hno).mono ?_
  rintro e W' ⟨rfl, hd⟩
  exact ⟨rfl, h.quiet hd⟩

theorem ownr_set {w W : World} {c : Nat} {L : List Cl} {A : Nat → Prop} (h : OwnR w W c L A) (s n : Int) (i : Nat) (hi : i < L.length) (hit : Hit L s n i) (x : Int) :
    Calls Try.prog 16 #[.pointer (some ⟨c, 0, none⟩), .agg #[.int .i64 s, .int .i64 n], .int .i64 x] W fun e w' => e = .returned (.bool true) ∧ OwnR w w' c (L.set i ⟨L[i].gen, true, .int .i64 x⟩) A ∧ Keeps (fun k => ¬ A k) W w' := by
  obtain ⟨v, g, h1, h2⟩ := h.slab
  refine (rsetyes h1 s n i hi hit x).mono ?_
  rintro e W' ⟨rfl, hd⟩
  exact ⟨rfl, OwnR.did' h1 h2 h.new h.ac h.keeps h.lt hd⟩

theorem ownr_setno {w W : World} {c : Nat} {L : List Cl} {A : Nat → Prop} (h : OwnR w W c L A) (s n x : Int) (hno : ∀ i, ¬ Hit L s n i) :
    Calls Try.prog 16 #[.pointer (some ⟨c, 0, none⟩), .agg #[.int .i64 s, .int .i64 n], .int .i64 x] W fun e w' => e = .returned (.bool false) ∧ OwnR w w' c (L) A ∧ Keeps (fun k => ¬ A k) W w' := by
  obtain ⟨v, g, h1, h2⟩ := h.slab
  refine (rsetno h1 s n x hno).mono ?_
  rintro e W' ⟨rfl, hd⟩
  exact ⟨rfl, h.quiet hd⟩

theorem ownr_all {w W : World} {c : Nat} {L : List Cl} {A : Nat → Prop} (h : OwnR w W c L A) :
    Calls Try.prog 19 #[.pointer (some ⟨c, 0, none⟩)] W fun e w' => (∃ o, e = .returned o ∧ w'.ownsRow W.heap.size 54 3 o (its L L.length).length (itc (its L L.length))) ∧ OwnR w w' c L A ∧ Keeps (fun _ => False) W w' := by
  obtain ⟨v, g, h1, h2⟩ := h.slab
  refine (rall h1).mono ?_
  rintro e W' ⟨he, hd⟩
  exact ⟨he, (h.quiet hd).1, hd⟩

/-- two lists of slots that tell the same. -/
def Same (L R : List Cl) : Prop := L.length = R.length ∧ ∀ i (h : i < L.length) (h' : i < R.length), L[i].gen = R[i].gen ∧ L[i].has = R[i].has ∧ (L[i].has = true → L[i].x = R[i].x)

theorem same_nil : Same [] [] := ⟨rfl, fun i h _ => by simp at h⟩

theorem same_ff {L R : List Cl} (h : Same L R) : ff L = ff R := by
  have hr := ff_le R
  refine ff_eq L (ff R) (by rw [h.1]; exact hr) (fun i hi hlt => ?_) (fun hi => ?_)
  · have hi' : i < R.length := by rw [← h.1]; exact hi
    rw [(h.2 i hi hi').2.1]
    exact ff_before R i hi' hlt
  · have hi' : ff R < R.length := by rw [← h.1]; exact hi
    rw [(h.2 _ hi hi').2.1]
    exact ff_free R hi'

theorem same_cnt : ∀ {L R : List Cl}, Same L R → cnt L = cnt R
  | [], [], _ => rfl
  | [], _ :: _, h => by have := h.1; simp at this
  | _ :: _, [], h => by have := h.1; simp at this
  | a :: L, b :: R, h => by
    have h0 := (h.2 0 (by simp) (by simp)).2.1
    have := same_cnt (L := L) (R := R) ⟨by have := h.1; simpa using this, fun i hi hi' => h.2 (i + 1) (by simpa using hi) (by simpa using hi')⟩
    simp only [List.getElem_cons_zero] at h0
    simp only [cnt] at this ⊢
    rw [List.filter_cons, List.filter_cons, h0]
    split <;> simp [this]

theorem same_its {L R : List Cl} (h : Same L R) : ∀ k, k ≤ L.length → its L k = its R k
  | 0, _ => rfl
  | k + 1, hk => by
    have hi : k < L.length := by omega
    have hi' : k < R.length := by rw [← h.1]; exact hi
    obtain ⟨h1, h2, h3⟩ := h.2 k hi hi'
    have ih := same_its h k (by omega)
    cases hh : L[k].has with
    | true => rw [its_yes hi hh, its_yes hi' (by rw [← h2]; exact hh), ih, h1, h3 hh]
    | false => rw [its_no hi hh, its_no hi' (by rw [← h2]; exact hh), ih]

theorem same_all {L R : List Cl} (h : Same L R) : its L L.length = its R R.length := by
  rw [same_its h _ (Nat.le_refl _), h.1]

theorem same_set {L R : List Cl} (h : Same L R) (i : Nat) (g : Nat) (b : Bool) (x y : Value) (hx : b = true → x = y) : Same (L.set i ⟨g, b, x⟩) (R.set i ⟨g, b, y⟩) := by
  refine ⟨by simp [h.1], fun j hj hj' => ?_⟩
  simp only [List.getElem_set]
  by_cases e : i = j
  · simp only [e, if_true]
    exact ⟨trivial, trivial, hx⟩
  · simp only [e, if_false]
    exact h.2 j (by simpa using hj) (by simpa using hj')

theorem same_pad {L R : List Cl} (h : Same L R) (z : Value) : Same (padL L z) (padL R z) := by
  unfold padL
  rw [same_ff h, h.1]
  split
  · exact h
  · refine ⟨by simp [h.1], fun i hi hi' => ?_⟩
    by_cases hl : i < L.length
    · have hl' : i < R.length := by rw [← h.1]; exact hl
      rw [List.getElem_append_left hl, List.getElem_append_left hl']
      exact h.2 i hl hl'
    · have hl' : ¬ i < R.length := by rw [← h.1]; exact hl
      rw [List.getElem_append_right (by omega), List.getElem_append_right (by omega)]
      simp

theorem same_gen {L R : List Cl} (h : Same L R) (i : Nat) : L[i]?.map (·.gen) = R[i]?.map (·.gen) := by
  by_cases hl : i < L.length
  · have hl' : i < R.length := by rw [← h.1]; exact hl
    rw [List.getElem?_eq_getElem hl, List.getElem?_eq_getElem hl']
    simp [(h.2 i hl hl').1]
  · have hl' : ¬ i < R.length := by rw [← h.1]; exact hl
    rw [List.getElem?_eq_none (by omega), List.getElem?_eq_none (by omega)]

theorem same_putG {L R : List Cl} (h : Same L R) : putG L = putG R := by
  unfold putG
  rw [same_ff h, same_gen h]

theorem same_put {L R : List Cl} (h : Same L R) (z x : Value) : Same (putL L z x) (putL R z x) := by
  unfold putL
  rw [same_ff h, same_gen (same_pad h z)]
  exact same_set (same_pad h z) _ _ _ _ _ (fun _ => rfl)

theorem same_hit {L R : List Cl} (h : Same L R) {s n : Int} {i : Nat} (hh : Hit L s n i) : Hit R s n i := by
  obtain ⟨hi, h1, h2, h3⟩ := hh
  have hi' : i < R.length := by rw [← h.1]; exact hi
  obtain ⟨g1, g2, -⟩ := h.2 i hi hi'
  exact ⟨hi', h1, by rw [← g2]; exact h2, by rw [← g1]; exact h3⟩
theorem Same.symm {L R : List Cl} (h : Same L R) : Same R L :=
  ⟨h.1.symm, fun i hi hi' => by obtain ⟨g1, g2, g3⟩ := h.2 i hi' hi; exact ⟨g1.symm, g2.symm, fun e => (g3 (g2.trans e)).symm⟩⟩

/-- what was just put is there. -/
theorem hit_put (L : List Cl) (z x : Value) : ∃ hi : ff L < (putL L z x).length, (putL L z x)[ff L] = ⟨putG L, true, x⟩ ∧ Hit (putL L z x) (ff L) (putG L) (ff L) := by
  obtain ⟨P, hF, -⟩ := fill_any L z x
  have hlt := hF.lt
  have e : putL L z x = P.set (ff L) ⟨putG L, true, x⟩ := by rw [hF.put, hF.gen]
  have hi : ff L < (putL L z x).length := by rw [e]; simpa using hlt
  have hv : (putL L z x)[ff L] = ⟨putG L, true, x⟩ := by simp only [e, List.getElem_set_self]
  exact ⟨hi, hv, hi, rfl, by rw [hv], by rw [hv]⟩

/-- put, and perhaps dropped at once. -/
def pstep (L : List Cl) (x : Int) (b : Bool) (y : Value) : List Cl := if b then (putL L (.int .i64 0) (.int .i64 x)).set (ff L) ⟨putG L, false, y⟩ else putL L (.int .i64 0) (.int .i64 x)
theorem same_pstep {L R : List Cl} (h : Same L R) (x : Int) (b : Bool) (y y' : Value) : Same (pstep L x b y) (pstep R x b y') := by
  unfold pstep
  split
  · rw [same_ff h, same_putG h]
    exact same_set (same_put h _ _) _ _ _ _ _ (by simp)
  · exact same_put h _ _
def pb (Z : Nat → Int) (d : Int) : Nat → List Cl
  | 0 => []
  | k + 1 => pstep (pb Z d k) (Z k) (decide ((k : Int) = d)) (.int .i64 0)
def rb (Z : Nat → Int) (d : Int) : Nat → List Cl
  | 0 => []
  | k + 1 => pstep (rb Z d k) (Z k) (decide ((k : Int) = d)) (.int .i64 (Z k))
theorem same_pb (Z : Nat → Int) (d : Int) : ∀ k, Same (pb Z d k) (rb Z d k)
  | 0 => same_nil
  | k + 1 => same_pstep (same_pb Z d k) _ _ _ _
theorem pstep_len (L : List Cl) (x : Int) (b : Bool) (y : Value) : (pstep L x b y).length ≤ L.length + 1 := by
  unfold pstep
  have := put_len L (.int .i64 0) (.int .i64 x)
  split <;> simp <;> omega
theorem pstep_gens {L : List Cl} {M : Nat} (h : ∀ d ∈ L, d.gen ≤ M) (x : Int) (b : Bool) (y : Value) : ∀ d ∈ pstep L x b y, d.gen ≤ M + 1 := by
  unfold pstep
  have hp := put_gens h (.int .i64 0) (.int .i64 x)
  split
  · intro d hd
    rcases List.mem_or_eq_of_mem_set hd with hd | hd
    · exact hp d hd
    · obtain ⟨hi, hv, -⟩ := hit_put L (.int .i64 0) (.int .i64 x)
      have := hp _ (List.getElem_mem hi)
      rw [hv] at this
      rw [hd]; exact this
  · exact hp
theorem pb_len (Z : Nat → Int) (d : Int) : ∀ k, (pb Z d k).length ≤ k
  | 0 => Nat.le_refl _
  | k + 1 => by have := pb_len Z d k; have := pstep_len (pb Z d k) (Z k) (decide ((k : Int) = d)) (.int .i64 0); simp only [pb]; omega
theorem rb_len (Z : Nat → Int) (d : Int) (k : Nat) : (rb Z d k).length ≤ k := by rw [← (same_pb Z d k).1]; exact pb_len Z d k
theorem pb_gens (Z : Nat → Int) (d : Int) : ∀ k, ∀ e ∈ pb Z d k, e.gen ≤ k
  | 0 => by simp [pb]
  | k + 1 => pstep_gens (pb_gens Z d k) _ _ _
theorem rb_gens (Z : Nat → Int) (d : Int) : ∀ k, ∀ e ∈ rb Z d k, e.gen ≤ k
  | 0 => by simp [rb]
  | k + 1 => pstep_gens (rb_gens Z d k) _ _ _
end Go.Proofs.Ytnhcejbgkhhijaa
