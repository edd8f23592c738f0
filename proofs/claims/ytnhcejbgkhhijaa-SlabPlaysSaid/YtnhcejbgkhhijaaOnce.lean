/- SlabOnce: the plain law, and the rows of handles. -/
import Derived.Test.YtnhcejbgkhhijaaAwake
namespace Go.Proofs.Ytnhcejbgkhhijaa
open Go.RowKit Go.Pairs

/-- handles, as cells. -/
def hc (V : List (Nat × Nat)) : List Value := V.flatMap fun h => [.int .i64 h.1, .int .i64 h.2]
theorem hc_cons (h : Nat × Nat) (V : List (Nat × Nat)) : hc (h :: V) = .int .i64 h.1 :: .int .i64 h.2 :: hc V := rfl
theorem hc_app (V V' : List (Nat × Nat)) : hc (V ++ V') = hc V ++ hc V' := by simp [hc]
theorem hc_len : ∀ V : List (Nat × Nat), (hc V).length = V.length * 2
  | [] => rfl
  | h :: V => by rw [hc_cons]; simp only [List.length_cons, hc_len V]; omega
theorem hc_get : ∀ (V : List (Nat × Nat)) (i : Nat) (h : i < V.length), (hc V)[i * 2]? = some (.int .i64 V[i].1) ∧ (hc V)[i * 2 + 1]? = some (.int .i64 V[i].2)
  | h :: V, 0, _ => by simp [hc_cons]
  | h :: V, i + 1, hi => by
    obtain ⟨h1, h2⟩ := hc_get V i (by simpa using hi)
    rw [hc_cons, show (i + 1) * 2 = i * 2 + 1 + 1 by omega]
    simp only [List.getElem?_cons_succ, List.getElem_cons_succ]
    exact ⟨h1, h2⟩
theorem hc_take : ∀ (V : List (Nat × Nat)) (m : Nat), (hc V).take (m * 2) = hc (V.take m)
  | [], m => by simp [hc]
  | h :: V, 0 => by simp [hc]
  | h :: V, m + 1 => by rw [hc_cons, show (m + 1) * 2 = m * 2 + 1 + 1 by omega]; simp only [List.take_succ_cons, hc_take V m, hc_cons]
theorem hc_drop : ∀ (V : List (Nat × Nat)) (m : Nat), (hc V).drop (m * 2) = hc (V.drop m)
  | [], m => by simp [hc]
  | h :: V, 0 => by simp
  | h :: V, m + 1 => by rw [hc_cons, show (m + 1) * 2 = m * 2 + 1 + 1 by omega]; simp only [List.drop_succ_cons, hc_drop V m]

/-- what is known of slots, live handles, dead handles behind j rounds. -/
structure Law (L : List Cl) (V D : List (Nat × Nat)) (j : Nat) : Prop where
  live : ∀ h ∈ V, ∃ d, L[h.1]? = some d ∧ d.has = true ∧ d.gen = h.2
  dead : ∀ h ∈ D, ∃ d, L[h.1]? = some d ∧ h.2 ≤ d.gen ∧ (d.has = true → d.gen ≠ h.2)
  nodup : V.Nodup
  cnt : cnt L = V.length
  len : L.length ≤ j
  gens : ∀ d ∈ L, d.gen ≤ j
  sizes : V.length + D.length ≤ j

theorem law_nil : Law [] [] [] 0 := ⟨by simp, by simp, by simp, rfl, by simp, by simp, by simp⟩

theorem fill_any (L : List Cl) (z x : Value) : ∃ P, Fill L P (ff L) z x ∧ ∀ (i : Nat) (d : Cl), L[i]? = some d → P[i]? = some d := by
  by_cases hl : ff L < L.length
  · exact ⟨L, fill_in hl z x, fun _ _ h => h⟩
  · refine ⟨_, fill_new (by have := ff_le L; omega) z x, fun i d h => ?_⟩
    rw [List.getElem?_append_left (List.getElem?_eq_some_iff.1 h).1]
    exact h

theorem law_put {L : List Cl} {V D : List (Nat × Nat)} {j : Nat} (h : Law L V D j) (z x : Value) :
    Law (putL L z x) (V ++ [(ff L, putG L)]) D (j + 1) ∧ (ff L, putG L) ∉ V ∧ (ff L, putG L) ∉ D := by
  obtain ⟨P, hF, old⟩ := fill_any L z x
  have hlt := hF.lt
  rw [hF.put, hF.gen]
  obtain ⟨p, hp⟩ : ∃ p, p = ff L := ⟨_, rfl⟩
  obtain ⟨q, hq⟩ : ∃ q, P[ff L]? = some q := ⟨_, List.getElem?_eq_getElem hlt⟩
  have hq' : P[ff L] = q := (List.getElem?_eq_some_iff.1 hq).2
  have hfree : q.has = false := hq' ▸ hF.free
  have hqg : q.gen ≤ j := by
    rcases hF.els q (List.mem_of_getElem? hq) with h' | h'
    · exact h.gens q h'
    · rw [h']; exact Nat.zero_le _
  simp only [hq']
  rw [← hp] at hq hlt ⊢
  have n1 : (p, q.gen + 1) ∉ V := by
    intro hm
    obtain ⟨d, h1, h2, h3⟩ := h.live _ hm
    have := old _ _ h1
    simp only [hq, Option.some.injEq] at this
    subst this
    rw [hfree] at h2; simp at h2
  have n2 : (p, q.gen + 1) ∉ D := by
    intro hm
    obtain ⟨d, h1, h2, h3⟩ := h.dead _ hm
    have := old _ _ h1
    simp only [hq, Option.some.injEq] at this
    subst this
    simp at h2
    omega
  refine ⟨⟨?_, ?_, ?_, ?_, ?_, ?_, ?_⟩, n1, n2⟩
  · intro e he
    rcases List.mem_append.1 he with he | he
    · obtain ⟨d, h1, h2, h3⟩ := h.live e he
      have h4 := old _ _ h1
      refine ⟨d, ?_, h2, h3⟩
      rw [List.getElem?_set_ne, h4]
      rintro hpe
      rw [← hpe, hq] at h4
      simp at h4; subst h4
      rw [hfree] at h2; simp at h2
    · simp at he
      subst he
      exact ⟨⟨q.gen + 1, true, x⟩, by rw [List.getElem?_set_self hlt], rfl, rfl⟩
  · intro e he
    obtain ⟨d, h1, h2, h3⟩ := h.dead e he
    have h4 := old _ _ h1
    by_cases hpe : p = e.1
    · rw [← hpe, hq] at h4
      simp at h4; subst h4
      refine ⟨⟨q.gen + 1, true, x⟩, by rw [← hpe, List.getElem?_set_self hlt], by simp; omega, fun _ => by simp; omega⟩
    · exact ⟨d, by rw [List.getElem?_set_ne hpe, h4], h2, h3⟩
  · rw [List.nodup_append]
    refine ⟨h.nodup, by simp, fun a ha b hb => ?_⟩
    simp at hb
    subst hb
    rintro rfl
    exact n1 ha
  · have := cnt_set P p hlt ⟨q.gen + 1, true, x⟩
    have e1 : P[p] = q := (List.getElem?_eq_some_iff.1 hq).2
    simp [e1, hfree] at this
    rw [this, hF.cnt, h.cnt]
    simp
  · have := hF.len
    have := h.len
    simp; omega
  · intro d hd
    rcases List.mem_or_eq_of_mem_set hd with hd | hd
    · rcases hF.els d hd with h' | h'
      · have := h.gens d h'; omega
      · rw [h']; exact Nat.zero_le _
    · rw [hd]; show q.gen + 1 ≤ j + 1; omega
  · have := h.sizes
    simp; omega

theorem law_drop {L : List Cl} {V D : List (Nat × Nat)} {j : Nat} (h : Law L V D j) (m : Nat) (hm : m < V.length) (d : Cl) (hd : L[(V[m]).1]? = some d) (z : Value) :
    Law (L.set (V[m]).1 ⟨d.gen, false, z⟩) (V.take m ++ V.drop (m + 1)) (D ++ [V[m]]) (j + 1) := by
  obtain ⟨d', h1, h2, h3⟩ := h.live V[m] (List.getElem_mem hm)
  obtain rfl : d' = d := by rw [hd] at h1; simpa using h1.symm
  have hlt := (List.getElem?_eq_some_iff.1 hd).1
  have hsplit : V = V.take m ++ V[m] :: V.drop (m + 1) := by simp
  have hnd := h.nodup
  rw [hsplit, List.nodup_append, List.nodup_cons] at hnd
  obtain ⟨nd1, ⟨nd2, nd3⟩, nd4⟩ := hnd
  refine ⟨?_, ?_, ?_, ?_, ?_, ?_, ?_⟩
  · intro e he
    have hne : e ≠ V[m] := by
      rintro rfl
      rcases List.mem_append.1 he with he | he
      · exact nd4 _ he _ (List.mem_cons_self ..) rfl
      · exact nd2 he
    have heV : e ∈ V := by
      rcases List.mem_append.1 he with he | he
      · exact List.mem_of_mem_take he
      · exact List.mem_of_mem_drop he
    obtain ⟨b, g1, g2, g3⟩ := h.live e heV
    refine ⟨b, ?_, g2, g3⟩
    rw [List.getElem?_set_ne, g1]
    intro heq
    rw [← heq, hd] at g1
    simp at g1
    subst g1
    exact hne (Prod.ext heq.symm (by rw [← g3, h3]))
  · intro e he
    have hcase : ∀ b : Cl, L[e.1]? = some b → e.2 ≤ b.gen → (b.has = true → b.gen ≠ e.2) ∨ e = V[m] → ∃ b', (L.set (V[m]).1 ⟨d'.gen, false, z⟩)[e.1]? = some b' ∧ e.2 ≤ b'.gen ∧ (b'.has = true → b'.gen ≠ e.2) := by
      intro b g1 g2 g3
      by_cases heq : (V[m]).1 = e.1
      · rw [← heq, hd] at g1
        simp at g1
        subst g1
        exact ⟨⟨d'.gen, false, z⟩, by rw [← heq, List.getElem?_set_self hlt], g2, by simp⟩
      · refine ⟨b, by rw [List.getElem?_set_ne heq, g1], g2, ?_⟩
        rcases g3 with g3 | g3
        · exact g3
        · rw [g3] at heq; simp at heq
    rcases List.mem_append.1 he with he | he
    · obtain ⟨b, g1, g2, g3⟩ := h.dead e he
      exact hcase b g1 g2 (.inl g3)
    · simp at he
      subst he
      exact hcase d' hd (by omega) (.inr rfl)
  · rw [List.nodup_append]
    exact ⟨nd1, nd3, fun a ha b hb => nd4 a ha b (List.mem_cons_of_mem _ hb)⟩
  · have e1 : L[(V[m]).1] = d' := (List.getElem?_eq_some_iff.1 hd).2
    have := cnt_set L (V[m]).1 hlt ⟨d'.gen, false, z⟩
    simp [e1, h2] at this
    have hc := h.cnt
    simp; omega
  · have := h.len
    simp; omega
  · intro b hb
    rcases List.mem_or_eq_of_mem_set hb with hb | hb
    · have := h.gens b hb; omega
    · have := h.gens d' (List.mem_of_getElem? hd)
      rw [hb]; show d'.gen ≤ j + 1; omega
  · have := h.sizes
    simp; omega

theorem law_nohit {L : List Cl} {V D : List (Nat × Nat)} {j : Nat} (h : Law L V D j) (e : Nat × Nat) (he : e ∈ D) : ∀ i, ¬ Hit L e.1 e.2 i := by
  rintro i ⟨hi, h1, h2, h3⟩
  obtain rfl : i = e.1 := by omega
  obtain ⟨d, g1, g2, g3⟩ := h.dead e he
  obtain rfl : L[e.1] = d := (List.getElem?_eq_some_iff.1 g1).2
  exact g3 h2 (by omega)
end Go.Proofs.Ytnhcejbgkhhijaa
