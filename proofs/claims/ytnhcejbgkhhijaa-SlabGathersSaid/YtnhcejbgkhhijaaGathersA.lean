/- SlabGathers: the argument opened; the walk at every input. -/
import Derived.Test.YtnhcejbgkhhijaaGathersW
import Derived.Test.YtnhcejbgkhhijaaOpen
import Derived.ChangeArms
namespace Go.Pairs
open Go.ChangeShapes Go.WideShapes Go.ChangeAt Go.RowKit Go.Proofs.Ytnhcejbgkhhijaa
section
variable {H : Type} {enc : TypeId × Value → H} {P : Program} {w : World} {base : Nat} {sp : Nat → Bool} {held : Bool} {r : Reach} {b0 : Nat}

theorem inner_ints {t e : TypeId} {q : IntKind} {u : Value} {n : Nat} {d : DataW H × List MemPlace} (ht : P.underlying t = some (.slice e)) (he : P.underlying e = some (.int q)) (hc : P.cellsOf e = 1)
    (h : DataW.trod enc P w base sp held n t [u] = some d) : ∃ (a : Option Addr) (M C : Nat) (Z : Nat → Int), u = .slice a M C ∧ M ≤ maxLen ∧ ∀ j, j < M → ∃ b off, a = some ⟨b, off, none⟩ ∧ w.cell? ⟨b, off + j, none⟩ = some (.int q (Z j)) := by
  rcases Go.Deep.open_slice1 ht hc h with ⟨hcs, -⟩ | ⟨a, len, cap, m, n, V, D, Pl, hcs, -, hl, hm, hmm, -, hel⟩
  · obtain rfl : u = .slice none 0 0 := by simpa using hcs
    exact ⟨none, 0, 0, fun _ => 0, rfl, Nat.zero_le _, fun j hj => by omega⟩
  · obtain rfl : u = .slice (some a) len cap := by simpa using hcs
    have hlm : len ≤ m := by rw [hmm]; split <;> omega
    obtain ⟨b, off, s⟩ := a
    have hall : ∀ j, j < len → ∃ z : Int, w.cell? ((⟨b, off, s⟩ : Addr).add j) = some (.int q z) := by
      intro j hj
      obtain ⟨g1, g2⟩ := hel j (by omega)
      obtain ⟨x, hx, -, -⟩ := DataW.trod_int he g2
      exact ⟨x, by rw [g1, show V j = .int q x by simpa using hx]⟩
    obtain ⟨Z, hZ⟩ := Go.Deep.choose_lt hall
    refine ⟨_, len, cap, Z, rfl, by omega, fun j hj => ?_⟩
    have hs : s = none := by
      have := hZ 0 (by omega)
      simp only [Addr.add, if_true] at this
      simpa using World.cell?_spot this
    subst hs
    refine ⟨b, off, rfl, ?_⟩
    rw [← hZ j hj]
    congr 1
    unfold Addr.add
    split <;> simp_all

theorem open_ii {t e i : TypeId} {v : Value} {d : DataW H} {ps : List MemPlace} (ht : P.underlying t = some (.slice e)) (he : P.underlying e = some (.slice i)) (hi : P.underlying i = some (.int .i64)) (hc : P.cellsOf e = 1) (hc' : P.cellsOf i = 1)
    (hval : Value.okWide P w r b0 t v) (h : DataW.Trod enc P w base sp held t v d ps) : ∃ (ao : Option Addr) (len cap : Nat) (U : Nat → Option Addr) (M C : Nat → Nat) (Z : Nat → Nat → Int), v = .slice ao len cap ∧ len ≤ maxLen ∧ IsII w ao len U M C Z := by
  rcases open_rows ht hc (by omega) hval h with rfl | ⟨b, off, s, len, cap, CS, rfl, hl, hm, hs, hel⟩
  · exact ⟨none, 0, 0, fun _ => none, fun _ => 0, fun _ => 0, fun _ _ => 0, rfl, Nat.zero_le _, fun i hi => by omega⟩
  · have hall : ∀ i, i < len → ∃ q : Option Addr × Nat × Nat × (Nat → Int), q.2.1 ≤ maxLen ∧ w.cell? ⟨b, off + i, none⟩ = some (.slice q.1 q.2.1 q.2.2.1) ∧ ∀ j, j < q.2.1 → ∃ b off, q.1 = some ⟨b, off, none⟩ ∧ w.cell? ⟨b, off + j, none⟩ = some (.int .i64 (q.2.2.2 j)) := by
      intro k hk
      obtain ⟨g1, g2, n, D, g3⟩ := hel k hk
      match hcs : CS k, g1 with
      | [u], _ =>
        rw [hcs] at g3
        obtain ⟨a, M, C, Z, rfl, h2, h3⟩ := inner_ints he hi hc' g3
        have h0 := g2 0 (by omega)
        rw [hcs] at h0
        exact ⟨⟨a, M, C, Z⟩, h2, by simpa using h0, h3⟩
    obtain ⟨Q, hQ⟩ := Go.Deep.choose_lt hall
    refine ⟨_, len, cap, fun i => (Q i).1, fun i => (Q i).2.1, fun i => (Q i).2.2.1, fun i => (Q i).2.2.2, rfl, by omega, fun i hi => ?_⟩
    obtain ⟨h1, h2, h3⟩ := hQ i hi
    obtain rfl := hs (by omega)
    exact ⟨h1, ⟨b, off, rfl, h2⟩, h3⟩
end
end Go.Pairs
namespace Go.Proofs.Ytnhcejbgkhhijaa
open Go.RowKit Go.Pairs

theorem below_of' {w w' : World} (h : Keeps (fun _ => False) w w') : Below w.heap.size w w' := h.below (Nat.le_refl _) (fun _ _ h => h)

theorem slabGathers_walk (w : World) (ao : Option Addr) (len cap : Nat) (U : Nat → Option Addr) (M C : Nat → Nat) (Z : Nat → Nat → Int) (hb : len ≤ maxLen) (hZ : IsII w ao len U M C Z) (drop : Int) (_ws : (Lit.int .i64 drop).wf = true) :
    Calls Try.prog 6 #[.slice ao len cap, .int .i64 drop] w fun e w' => e = .returned (.bool true) ∧ Below w.heap.size w w' :=
  (gathers_yes w ao len cap U M C Z drop hb hZ).mono fun _ _ h => ⟨h.1, below_of' h.2⟩
end Go.Proofs.Ytnhcejbgkhhijaa
