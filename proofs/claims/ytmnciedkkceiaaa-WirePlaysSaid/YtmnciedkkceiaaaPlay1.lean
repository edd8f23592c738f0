/- The document's channel: what it holds, Send, Recv, Close. -/
import Derived.Test.YtmnciedkkceiaaaOrderW
import Derived.Deep.AppendSrc
import Derived.Laws.OwnMore
namespace Go.Proofs.Ytmnciedkkceiaaa
open Go.RowKit Go.Pairs

/-- lv is a part of a row of the document's: L. -/
def SubRow (w : World) (lv : Value) (L : List Int) : Prop :=
  (lv = .slice none 0 0 ∧ L = []) ∨ ∃ h off cap cur, lv = .slice (some ⟨h, off, none⟩) L.length cap ∧ w.heap[h]? = some (.cells cur 3 (0, 0)) ∧ L.length ≤ cap ∧ off + cap ≤ cur.size ∧ ∀ i (hi : i < L.length), cur[off + i]? = some (.int .i64 L[i])

/-- the document's channel: block d, and the row's. -/
structure Rf (w : World) (d : Nat) (lv : Value) (room : Nat) (closed : Bool) (L : List Int) : Prop where
  cell : w.heap[d]? = some (.cells #[lv, .int .i64 room, .bool closed] 59 (0, 0))
  row : SubRow w lv L
  ne : lv.ownBlock ≠ some d
  len : L.length ≤ room
  most : room ≤ 65536

/-- what an operation on it leaves. -/
def Rdid (w : World) (d : Nat) (lv : Value) (room : Nat) (closed : Bool) (L : List Int) (w' : World) : Prop :=
  ∃ lv', Rf w' d lv' room closed L ∧ (lv'.ownBlock = lv.ownBlock ∨ ∃ k, lv'.ownBlock = some k ∧ w.heap.size ≤ k) ∧ Keeps (fun k => k = d ∨ some k = lv.ownBlock) w w'

theorem SubRow.keep {w w' : World} {lv : Value} {L : List Int} (h : SubRow w lv L) {S : Nat → Prop} (hk : Keeps S w w') (hs : ∀ k, lv.ownBlock = some k → ¬ S k) : SubRow w' lv L := by
  rcases h with h | ⟨b, off, cap, cur, rfl, h2, h3, h4, h5⟩
  · exact .inl h
  · exact .inr ⟨b, off, cap, cur, rfl, (hk.block b (Array.getElem?_eq_some_iff.1 h2).1 (hs b rfl)).trans h2, h3, h4, h5⟩
theorem Rf.keep {w w' : World} {d : Nat} {lv : Value} {room : Nat} {closed : Bool} {L : List Int} (h : Rf w d lv room closed L) {S : Nat → Prop} (hk : Keeps S w w') (hd : ¬ S d) (hs : ∀ k, lv.ownBlock = some k → ¬ S k) : Rf w' d lv room closed L :=
  ⟨(hk.block d (Array.getElem?_eq_some_iff.1 h.cell).1 hd).trans h.cell, h.row.keep hk hs, h.ne, h.len, h.most⟩
theorem SubRow.shape {w : World} {lv : Value} {L : List Int} (h : SubRow w lv L) : ∃ oa cap, lv = .slice oa L.length cap := by
  rcases h with ⟨h1, h2⟩ | ⟨b, off, cap, cur, h1, -⟩
  · exact ⟨none, 0, by rw [h1, h2]; rfl⟩
  · exact ⟨_, _, h1⟩
theorem rdid_refl {w : World} {d : Nat} {lv : Value} {room : Nat} {closed : Bool} {L : List Int} (h : Rf w d lv room closed L) : Rdid w d lv room closed L w :=
  ⟨lv, h, .inl rfl, Keeps.refl _ _⟩
theorem rdid_drewN {w : World} {d : Nat} {lv : Value} {room : Nat} {closed : Bool} {L : List Int} (h : Rf w d lv room closed L) (n : Nat) : Rdid w d lv room closed L (w.drewN n) :=
  ⟨lv, h.keep (keeps_drewN (Keeps.refl (fun _ => False) w) n) (by simp) (by simp), .inl rfl, keeps_drewN (Keeps.refl _ _) _⟩

/-- one more behind. -/
theorem run_more (w w0 : World) (ty : TypeId) (lv : Value) (L : List Int) (x : Int) (h : SubRow w0 lv L) (hl : L.length ≤ 65536) (hw : w = w0.alloc (.cells #[.int .i64 x] 3)) :
    ∃ v' w', (Builtin.append_ #[41, 41] ty #[lv, .slice (some ⟨w0.heap.size, 0, none⟩) 1 1]).run Try.prog w = .ok v' w' ∧ SubRow w' v' (L ++ [x]) ∧ (v'.ownBlock = lv.ownBlock ∨ ∃ k, v'.ownBlock = some k ∧ w.heap.size ≤ k) ∧ Keeps (fun k => some k = lv.ownBlock) w w' := by
  obtain ⟨i0, hi, hz0, hz1, hz2⟩ := info_parts info3
  have h' : SubRow w lv L := h.keep (S := fun _ => False) (hw ▸ (Keeps.refl _ _).alloc _) (by simp)
  have hnews : ∀ j u, [Value.int .i64 x][j]? = some u → w.cell? ((⟨w0.heap.size, 0, none⟩ : Addr).add j) = some u := by
    intro j u hj
    match j, hj with
    | 0, hj =>
      simp at hj; subst hj
      rw [hw]
      have : (⟨w0.heap.size, 0, none⟩ : Addr).add 0 = ⟨w0.heap.size, 0, none⟩ := by simp [Addr.add]
      rw [this, cells_at (heap_alloc_new w0 _)]; rfl
  have hsrc : Src Try.prog i0.size 41 (.slice (some ⟨w0.heap.size, 0, none⟩) 1 1) 1 [.int .i64 x] w := Src.ofSlice w Try.underlying41 ⟨w0.heap.size, 0, none⟩ 1 1 [.int .i64 x] (by rw [hz1]; rfl) hnews (by simp [Value.oneCell'])
  have grow : ∀ (base : Option Addr) (cap : Nat), (Builtin.firstCells i0.size L.length (.slice base L.length cap)).run Try.prog w.drew = .ok (L.map fun (n : Int) => Value.int .i64 n).toArray w.drew → cap < L.length + 1 → lv = .slice base L.length cap →
      ∃ v' w', (Builtin.append_ #[41, 41] ty #[lv, .slice (some ⟨w0.heap.size, 0, none⟩) 1 1]).run Try.prog w = .ok v' w' ∧ SubRow w' v' (L ++ [x]) ∧ (v'.ownBlock = lv.ownBlock ∨ ∃ k, v'.ownBlock = some k ∧ w.heap.size ≤ k) ∧ Keeps (fun k => some k = lv.ownBlock) w w' := by
    intro base cap hold hlt hlv
    have hr := run_append_grow_src (P := Try.prog) w 41 41 ty 3 i0 (.int .i64 0) Try.underlying41 hi hz0 base L.length cap _ hold _ 1 _ hsrc hlt (by omega) (growslice_fits (by omega) (by rw [hz2]; omega))
    refine ⟨_, _, hlv ▸ hr, .inr ⟨w.heap.size, 0, _, _, by rw [List.length_append]; rfl, heap_alloc_new w.drew _, ?_, ?_, ?_⟩, .inr ⟨w.heap.size, rfl, Nat.le_refl _⟩, (Keeps.refl _ _).drew.alloc _⟩
    · rw [List.length_append]; exact grownCap_ge _ _ _ _
    · simp only [Array.size_append, List.size_toArray, List.length_append, List.length_map, List.length_cons, List.length_nil, size_zeroCells]
      have : (Value.int .i64 0).cells.size = 1 := rfl
      rw [this]
      omega
    · intro i hi'
      rw [List.length_append] at hi'
      simp only [List.length_cons, List.length_nil] at hi'
      rw [Nat.zero_add, Array.getElem?_append_left (by simp; omega)]
      have e : (L.map fun (n : Int) => Value.int .i64 n) ++ [Value.int .i64 x] = (L ++ [x]).map fun (n : Int) => Value.int .i64 n := by simp
      rw [e]
      simp only [List.getElem?_toArray, List.getElem?_map]
      rw [List.getElem?_eq_getElem (by simp; omega)]
      rfl
  rcases h' with ⟨h1, h2⟩ | ⟨b, off, cap, cur, h1, h2, h3, h4, h5⟩
  · subst h2
    exact grow none 0 (run_firstCells_none w.drew i0.size 0 0 0) (by simp) h1
  · subst h1
    by_cases hroom : L.length + 1 ≤ cap
    · have hlt : off + L.length < cur.size := by omega
      have hr := run_append_room_src (P := Try.prog) w 41 41 ty 3 i0 Try.underlying41 hi b off L.length cap _ 1 _ hsrc hroom (by
          intro j hj
          simp at hj; subst hj
          rw [hz1, Nat.mul_one, Nat.add_zero, cells_at h2, Array.getElem?_eq_getElem hlt]; rfl) (by
          intro j hj
          exact free_at h2 _)
      rw [hz1, Nat.mul_one] at hr
      refine ⟨_, _, hr, .inr ⟨b, off, cap, cur.setIfInBounds (off + L.length) (.int .i64 x), by rw [List.length_append]; rfl, ?_, by rw [List.length_append]; exact hroom, by rw [Array.size_setIfInBounds]; exact h4, ?_⟩, .inl rfl, ?_⟩
      · exact setCell_block h2 _ _
      · intro i hi'
        rw [List.length_append] at hi'
        simp only [List.length_cons, List.length_nil] at hi'
        by_cases e : i = L.length
        · subst e
          rw [Array.getElem?_setIfInBounds_self_of_lt hlt]
          simp
        · rw [Array.getElem?_setIfInBounds_ne (by omega), h5 i (by omega), List.getElem_append_left (by omega)]
      · exact (Keeps.refl (fun k => some k = some b) w).setCell (p := ⟨b, off + L.length, none⟩) (.inl rfl) _
    · refine grow (some ⟨b, off, none⟩) cap ?_ (by omega) rfl
      refine run_firstCells_some w.drew i0.size L.length _ _ _ _ (by simp [hz1]) ?_
      intro j v hj
      have hjl : j < L.length := by
        have := (List.getElem?_eq_some_iff.1 hj).1
        simpa using this
      have h6 := h5 j hjl
      rw [List.getElem?_map, List.getElem?_eq_getElem hjl] at hj
      simp at hj
      subst hj
      have : (⟨b, off, none⟩ : Addr).add j = ⟨b, off + j, none⟩ := by unfold Addr.add; split <;> simp_all
      rw [this]
      show w.cell? ⟨b, off + j, none⟩ = _
      rw [cells_at h2]; exact h6
end Go.Proofs.Ytmnciedkkceiaaa
