/- What an argument's reading says of its value: a pair of ints, a float, a slice of pairs. -/
import Derived.OpenShut
import Derived.ProofKit
import Derived.Deep.Slices
import Derived.WalkKit
namespace Go.Pairs
open Go.ChangeShapes Go.WideShapes Go.ChangeAt Go.RowKit

section
variable {H : Type} {enc : TypeId × Value → H} {P : Program} {w : World} {base : Nat} {sp : Nat → Bool} {held : Bool} {r : Reach} {b0 : Nat}

theorem read_pair {t e : TypeId} {fuel : Nat} {cs : List Value} {x : DataW H × List MemPlace} (ht : P.underlying t = some (.array 2 e)) (he : P.underlying e = some (.int .i64)) (hce : P.cellsOf e = 1) (hc : P.cellsOf t = 2)
    (h : DataW.trod enc P w base sp held fuel t cs = some x) : ∃ a b, cs = [.int .i64 a, .int .i64 b] ∧ (Lit.int .i64 a).wf = true ∧ (Lit.int .i64 b).wf = true := by
  obtain ⟨xs, m, rfl, -, hl, hn, hel⟩ := DataW.trod_array ht h
  rw [hc] at hl
  have h0 := hel 0 (by omega)
  have h1 := hel 1 (by omega)
  rw [hce] at h0 h1
  match cs, hl with
  | [c0, c1], _ =>
    rw [List.getElem?_eq_getElem (by omega)] at h0 h1
    simp at h0 h1
    obtain ⟨a, e0, -, w0⟩ := DataW.trod_int he h0
    obtain ⟨b, e1, -, w1⟩ := DataW.trod_int he h1
    simp at e0 e1
    subst e0 e1
    exact ⟨a, b, rfl, w0, w1⟩

theorem open_pair {t e : TypeId} {v : Value} {d : DataW H} {ps : List MemPlace} (ht : P.underlying t = some (.array 2 e)) (he : P.underlying e = some (.int .i64)) (hce : P.cellsOf e = 1) (hc : P.cellsOf t = 2)
    (hval : Value.okWide P w r b0 t v) (h : DataW.Trod enc P w base sp held t v d ps) : ∃ a b, v = .agg #[.int .i64 a, .int .i64 b] ∧ (Lit.int .i64 a).wf = true ∧ (Lit.int .i64 b).wf = true := by
  unfold Value.okWide at hval
  rw [ht] at hval
  obtain ⟨cs, rfl, -, -⟩ := hval
  obtain ⟨fuel, hf⟩ := h
  obtain ⟨a, b, hcs, w0, w1⟩ := read_pair ht he hce hc hf
  refine ⟨a, b, ?_, w0, w1⟩
  simp only [Value.cells] at hcs
  rw [← Array.toArray_toList (xs := cs), hcs]

theorem open_float {t : TypeId} {q : FloatKind} {v : Value} {d : DataW H} {ps : List MemPlace} (ht : P.underlying t = some (.float q)) (h : DataW.Trod enc P w base sp held t v d ps) (hone : v.cells.toList = [v]) : ∃ b, v = .float q b := by
  obtain ⟨fuel, hf⟩ := h
  cases fuel with
  | zero => simp [DataW.trod] at hf
  | succ m =>
    rw [hone] at hf
    simp only [DataW.trod, ht] at hf
    split at hf <;> simp_all

theorem open_float1 {t : TypeId} {q : FloatKind} {v : Value} {d : DataW H} {ps : List MemPlace} (ht : P.underlying t = some (.float q)) (hval : Value.okWide P w r b0 t v) (h : DataW.Trod enc P w base sp held t v d ps) : ∃ b, v = .float q b := by
  cases v with
  | agg cs =>
    exfalso
    simp [Value.okWide, ht, Cell.okWide, Cell.ok] at hval
  | _ => exact open_float ht h rfl


theorem cells_get {a : Addr} {n : Nat} {cs : List Value} (h : w.cells? base a n = some cs) : cs.length = n ∧ ∀ i, i < n → w.cell? (a.add i) = cs[i]? := by
  unfold World.cells? at h
  split at h
  · exact ⟨by simpa using mapM_some_length h, fun i hi => mapM_some_get h i i (by simp [hi])⟩
  · simp at h

/-- A slice that came in, elements of c cells: nil, or a row whose cells read element by element. -/
theorem open_rows {t e : TypeId} {v : Value} {d : DataW H} {ps : List MemPlace} {c : Nat} (ht : P.underlying t = some (.slice e)) (hc : P.cellsOf e = c) (hc0 : 0 < c) (hval : Value.okWide P w r b0 t v) (h : DataW.Trod enc P w base sp held t v d ps) :
    v = .slice none 0 0 ∨ ∃ (b off : Nat) (s : Option Nat) (len cap : Nat) (CS : Nat → List Value), v = .slice (some ⟨b, off, s⟩) len cap ∧ len ≤ cap ∧ cap ≤ maxLen ∧ (0 < len → s = none) ∧
      ∀ i, i < len → (CS i).length = c ∧ (∀ j, j < c → w.cell? ⟨b, off + (i * c + j), none⟩ = (CS i)[j]?) ∧ ∃ n D, DataW.trod enc P w base sp held n e (CS i) = some D := by
  obtain ⟨a0, len, cap, rfl⟩ := okWide_slice ht hval
  obtain ⟨fuel, hf⟩ := h
  rcases Go.Deep.open_slice ht hf with ⟨hcs, -⟩ | ⟨a, len', cap', m, n, D, Pl, hcs, -, hl, hm, hmm, -, hel⟩
  · simp [Value.cells] at hcs
    obtain ⟨rfl, rfl, rfl⟩ := hcs
    exact .inl rfl
  · simp [Value.cells] at hcs
    obtain ⟨rfl, rfl, rfl⟩ := hcs
    have hlm : len ≤ m := by rw [hmm]; split <;> omega
    obtain ⟨b, off, s⟩ := a
    have hall : ∀ i, i < len → ∃ cs' : List Value, cs'.length = c ∧ (∀ j, j < c → w.cell? (Addr.add (Addr.add ⟨b, off, s⟩ (i * c)) j) = cs'[j]?) ∧ ∃ n D, DataW.trod enc P w base sp held n e cs' = some D := by
      intro i hi
      obtain ⟨cs', h1, h2⟩ := hel i (by omega)
      rw [hc] at h1
      obtain ⟨g1, g2⟩ := cells_get h1
      exact ⟨cs', g1, g2, n, _, h2⟩
    obtain ⟨CS, hCS⟩ := Go.Deep.choose_lt hall
    have hs : 0 < len → s = none := by
      intro h0
      obtain ⟨g1, g2, -⟩ := hCS 0 h0
      have := g2 0 hc0
      simp only [Nat.zero_mul, Addr.add, if_true] at this
      rw [List.getElem?_eq_getElem (by omega)] at this
      simpa using World.cell?_spot this
    refine .inr ⟨b, off, s, len, cap, CS, rfl, hl, hm, hs, fun i hi => ?_⟩
    obtain ⟨g1, g2, g3⟩ := hCS i hi
    refine ⟨g1, fun j hj => ?_, g3⟩
    rw [← g2 j hj]
    obtain rfl := hs (by omega)
    congr 1
    unfold Addr.add
    by_cases h1 : i * c = 0 <;> by_cases h2 : j = 0 <;> simp [h1, h2, Nat.add_assoc]

/-- a slice of pairs of ints. -/
def IsPairs (w : World) (v : Value) (len : Nat) (E : Nat → Int × Int) : Prop :=
  (v = .slice none 0 0 ∧ len = 0) ∨ ∃ b off s cap, v = .slice (some ⟨b, off, s⟩) len cap ∧ len ≤ cap ∧ cap ≤ maxLen ∧ (0 < len → s = none) ∧
    ∀ i, i < len → w.cell? ⟨b, off + i * 2, none⟩ = some (.int .i64 (E i).1) ∧ w.cell? ⟨b, off + i * 2 + 1, none⟩ = some (.int .i64 (E i).2)

theorem open_pairs {t e e' : TypeId} {v : Value} {d : DataW H} {ps : List MemPlace} (ht : P.underlying t = some (.slice e)) (he : P.underlying e = some (.array 2 e')) (he' : P.underlying e' = some (.int .i64)) (hce : P.cellsOf e' = 1) (hc : P.cellsOf e = 2)
    (hval : Value.okWide P w r b0 t v) (h : DataW.Trod enc P w base sp held t v d ps) : ∃ len E, IsPairs w v len E := by
  rcases open_rows ht hc (by omega) hval h with rfl | ⟨b, off, s, len, cap, CS, rfl, hl, hm, hs, hel⟩
  · exact ⟨0, fun _ => (0, 0), .inl ⟨rfl, rfl⟩⟩
  · have hall : ∀ i, i < len → ∃ p : Int × Int, w.cell? ⟨b, off + i * 2, none⟩ = some (.int .i64 p.1) ∧ w.cell? ⟨b, off + i * 2 + 1, none⟩ = some (.int .i64 p.2) := by
      intro i hi
      obtain ⟨g1, g2, n, D, g3⟩ := hel i hi
      obtain ⟨x, y, hxy, -, -⟩ := read_pair he he' hce hc g3
      have h0 := g2 0 (by omega)
      have h1 := g2 1 (by omega)
      rw [hxy] at h0 h1
      exact ⟨(x, y), by simpa using h0, by rw [Nat.add_assoc]; simpa using h1⟩
    obtain ⟨E, hE⟩ := Go.Deep.choose_lt hall
    exact ⟨len, E, .inr ⟨b, off, s, cap, rfl, hl, hm, hs, hE⟩⟩


/-- a slice of ints of kind q. -/
def IsInts (q : IntKind) (w : World) (v : Value) (len : Nat) (Z : Nat → Int) : Prop :=
  (v = .slice none 0 0 ∧ len = 0) ∨ ∃ b off s cap, v = .slice (some ⟨b, off, s⟩) len cap ∧ len ≤ cap ∧ cap ≤ maxLen ∧ (0 < len → s = none) ∧
    ∀ i, i < len → w.cell? ⟨b, off + i, none⟩ = some (.int q (Z i)) ∧ (Lit.int q (Z i)).wf = true

theorem open_intsf {t e : TypeId} {q : IntKind} {v : Value} {d : DataW H} {ps : List MemPlace} (ht : P.underlying t = some (.slice e)) (he : P.underlying e = some (.int q)) (hc : P.cellsOf e = 1)
    (hval : Value.okWide P w r b0 t v) (h : DataW.Trod enc P w base sp held t v d ps) : ∃ len Z, IsInts q w v len Z := by
  rcases open_rows ht hc (by omega) hval h with rfl | ⟨b, off, s, len, cap, CS, rfl, hl, hm, hs, hel⟩
  · exact ⟨0, fun _ => 0, .inl ⟨rfl, rfl⟩⟩
  · have hall : ∀ i, i < len → ∃ n : Int, w.cell? ⟨b, off + i, none⟩ = some (.int q n) ∧ (Lit.int q n).wf = true := by
      intro i hi
      obtain ⟨g1, g2, n, D, g3⟩ := hel i hi
      obtain ⟨x, hx, -, hw⟩ := DataW.trod_int he g3
      have h0 := g2 0 (by omega)
      rw [hx] at h0
      exact ⟨x, by simpa using h0, hw⟩
    obtain ⟨Z, hZ⟩ := Go.Deep.choose_lt hall
    exact ⟨len, Z, .inr ⟨b, off, s, cap, rfl, hl, hm, hs, hZ⟩⟩


/-- a slice of strings. -/
def IsStrs (w : World) (v : Value) (len : Nat) (Z : Nat → ByteArray) : Prop :=
  (v = .slice none 0 0 ∧ len = 0) ∨ ∃ b off s cap, v = .slice (some ⟨b, off, s⟩) len cap ∧ len ≤ cap ∧ cap ≤ maxLen ∧ (0 < len → s = none) ∧
    ∀ i, i < len → w.cell? ⟨b, off + i, none⟩ = some (.string (Z i))

theorem open_strs {t e : TypeId} {v : Value} {d : DataW H} {ps : List MemPlace} (ht : P.underlying t = some (.slice e)) (he : P.underlying e = some .string) (hc : P.cellsOf e = 1)
    (hval : Value.okWide P w r b0 t v) (h : DataW.Trod enc P w base sp held t v d ps) : ∃ len Z, IsStrs w v len Z := by
  rcases open_rows ht hc (by omega) hval h with rfl | ⟨b, off, s, len, cap, CS, rfl, hl, hm, hs, hel⟩
  · exact ⟨0, fun _ => ByteArray.empty, .inl ⟨rfl, rfl⟩⟩
  · have hall : ∀ i, i < len → ∃ n : ByteArray, w.cell? ⟨b, off + i, none⟩ = some (.string n) := by
      intro i hi
      obtain ⟨g1, g2, n, D, g3⟩ := hel i hi
      obtain ⟨x, hx, -, -⟩ := DataW.trod_string he g3
      have h0 := g2 0 (by omega)
      rw [hx] at h0
      exact ⟨x, by simpa using h0⟩
    obtain ⟨Z, hZ⟩ := Go.Deep.choose_lt hall
    exact ⟨len, Z, .inr ⟨b, off, s, cap, rfl, hl, hm, hs, hZ⟩⟩

end
end Go.Pairs
