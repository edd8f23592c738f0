/- The ring of a played channel: grow, at strings and at ints. -/
import Derived.Test.YtmnciedkkceiaaaRows
import Derived.Test.YtmnciedkkceiaaaBase
import Derived.WalkKit
import Derived.WalkSpells
import Derived.WalkLawsBesides
import Derived.StillTailTactics
import Derived.Laws.CopyOwn
namespace Go.Proofs.Ytmnciedkkceiaaa
open Go.RowKit Go.Pairs

/-- K empty places. -/
def zrow (z : Value) (K : Nat) : List Value := List.replicate K z

theorem zrow_len (z : Value) (K : Nat) : (zrow z K).length = K := by simp [zrow]

/-- a row of one-cell elements, made full. -/
theorem run_make1 {P : Program} {t e : TypeId} {i : TypeInfo} {z : Value} {by_ : Nat} (ht : P.underlying t = some (.slice e)) (hi : P.info? e = some i) (hz : i.zero = some z) (hz1 : z.cells = #[z]) (hs : i.size = 1) (hb : i.bytes = by_) (hby : by_ ≤ 64) (w : World) (x : Int) (K : Nat) (hx : x = K) (hK2 : K ≤ 1000000) :
    (Instr.makeSlice t (.int .i64 x) (.int .i64 x)).run P w = .ok (.slice (some ⟨w.heap.size, 0, none⟩) K K) (w.alloc (.cells (zrow z K).toArray e)) := by
  subst hx
  have hbb : i.bytes * K ≤ 64 * K := Nat.mul_le_mul_right _ (by omega)
  have hbb' : (i.bytes : Int) * (K : Int) ≤ 64 * K := by exact_mod_cast hbb
  have := run_make w t e i z ht hi hz .i64 .i64 K K (by omega) (by omega) (by omega) (by omega)
  rw [this, hz1, hs]
  have e1 : madeCells #[z] K = (zrow z K).toArray := by
    rw [← Array.toArray_toList (xs := madeCells #[z] K), toList_madeCells_one]; rfl
  simp only [Int.toNat_natCast, Nat.mul_one, e1]

theorem setRow_at {w : World} {g : Nat} {cur : Array Value} {t : TypeId} {fr : Nat × Nat} (h : w.heap[g]? = some (.cells cur t fr)) (cs : Array Value) : (w.setRow g cs).heap[g]? = some (.cells cs t fr) := by
  simp [World.setRow, Array.getElem?_modify, h]

theorem setRow_other (w : World) (g k : Nat) (cs : Array Value) (hk : k ≠ g) : (w.setRow g cs).heap[k]? = w.heap[k]? := by
  simp [World.setRow, Array.getElem?_modify, Ne.symm hk]

theorem keeps_setRow {S : Nat → Prop} {a w : World} (h : Keeps S a w) {g : Nat} (hg : S g ∨ a.heap.size ≤ g) (cs : Array Value) : Keeps S a (w.setRow g cs) :=
  h.then_ (S' := fun k => k = g) ⟨rfl, rfl, rfl, by simp [World.setRow], fun k _ hn => setRow_other _ _ _ _ hn⟩ (fun i hi e => by
    rcases hg with hg | hg
    · exact e ▸ hg
    · omega)

theorem cells_at {w : World} {c : Nat} {cs : Array Value} {t : TypeId} {fr : Nat × Nat} (h : w.heap[c]? = some (.cells cs t fr)) (i : Nat) : w.cell? ⟨c, i, none⟩ = cs[i]? := by simp [World.cell?, h]
theorem free_at {w : World} {c : Nat} {cs : Array Value} {t : TypeId} (h : w.heap[c]? = some (.cells cs t (0, 0))) (i : Nat) : w.frozen? ⟨c, i, none⟩ = false := by simp [World.frozen?, h]

theorem setCell_block {w : World} {c : Nat} {cs : Array Value} {t : TypeId} {fr : Nat × Nat} (h : w.heap[c]? = some (.cells cs t fr)) (o : Nat) (u : Value) : (w.setCell ⟨c, o, none⟩ u).heap[c]? = some (.cells (cs.setIfInBounds o u) t fr) := by
  simp [World.setCell, Array.getElem?_modify, h]

theorem run_low {P : Program} {t e : TypeId} (ht : P.underlying t = some (.slice e)) (hs : (P.info? e).map (·.size) = some 1) (g o len cap k : Nat) (hk : k ≤ len) (hkc : k < cap) (w : World) :
    (Instr.slice t (.slice (some ⟨g, o, none⟩) len cap) (some (.int .i64 k)) none none).run P w = .ok (.slice (some ⟨g, o + k, none⟩) (len - k) (cap - k)) w := by
  cases hq : P.info? e with
  | none => simp [hq] at hs
  | some i =>
    have hi : i.size = 1 := by simpa [hq] using hs
    have h2 : ¬ cap = k := by omega
    have h3 : (⟨g, o, none⟩ : Addr).add k = ⟨g, o + k, none⟩ := by unfold Addr.add; split <;> simp_all
    simp [Instr.slice, run_underlying ht, Instr.sliceBounds, Instr.sliceBound, asIntOf, sizeOf, typeInfo, hq, hi, hk, h2, h3]

theorem run_high {P : Program} {t e : TypeId} (ht : P.underlying t = some (.slice e)) (hs : (P.info? e).map (·.size) = some 1) (g o len cap k : Nat) (hk : k ≤ cap) (hc : 0 < cap) (w : World) :
    (Instr.slice t (.slice (some ⟨g, o, none⟩) len cap) none (some (.int .i64 k)) none).run P w = .ok (.slice (some ⟨g, o, none⟩) k cap) w := by
  cases hq : P.info? e with
  | none => simp [hq] at hs
  | some i =>
    have h2 : ¬ cap = 0 := by omega
    have h3 : (⟨g, o, none⟩ : Addr).add 0 = ⟨g, o, none⟩ := rfl
    simp [Instr.slice, run_underlying ht, Instr.sliceBounds, Instr.sliceBound, asIntOf, sizeOf, typeInfo, hq, hk, h2, h3]

theorem run_low_nil {P : Program} {t e : TypeId} (ht : P.underlying t = some (.slice e)) (hs : (P.info? e).map (·.size) = some 1) (w : World) :
    (Instr.slice t (.slice none 0 0) (some (.int .i64 0)) none none).run P w = .ok (.slice none 0 0) w := by
  cases hq : P.info? e with
  | none => simp [hq] at hs
  | some i => simp [Instr.slice, run_underlying ht, Instr.sliceBounds, Instr.sliceBound, asIntOf, sizeOf, typeInfo, hq]

theorem run_high_nil {P : Program} {t e : TypeId} (ht : P.underlying t = some (.slice e)) (hs : (P.info? e).map (·.size) = some 1) (w : World) :
    (Instr.slice t (.slice none 0 0) none (some (.int .i64 0)) none).run P w = .ok (.slice none 0 0) w := by
  cases hq : P.info? e with
  | none => simp [hq] at hs
  | some i => simp [Instr.slice, run_underlying ht, Instr.sliceBounds, Instr.sliceBound, asIntOf, sizeOf, typeInfo, hq]

/-- the new ring's places. -/
def spun (R : List Value) (at_ : Nat) : List Value := R.drop at_ ++ R.take at_

theorem spun_len {R : List Value} {at_ : Nat} (h : at_ ≤ R.length) : (spun R at_).length = R.length := by simp [spun]; omega

theorem splice1 {R Z : List Value} {at_ k : Nat} : (Z.take 0 ++ R.drop at_ ++ Z.drop (0 + k)) = R.drop at_ ++ Z.drop k := by simp

theorem splice2 {R Z : List Value} {at_ : Nat} (h : at_ ≤ R.length)  :
    ((R.drop at_ ++ Z.drop (R.length - at_)).take (R.length - at_) ++ R.take at_ ++ (R.drop at_ ++ Z.drop (R.length - at_)).drop (R.length - at_ + (R.take at_).length)) = spun R at_ ++ Z.drop R.length := by
  have e1 : (R.drop at_).length = R.length - at_ := by simp
  have e2 : (R.take at_).length = at_ := by simp; omega
  rw [List.take_append_of_le_length (by omega), List.take_of_length_le (by omega), e2, List.drop_append, e1, List.drop_of_length_le (l := R.drop at_) (by omega), List.drop_drop]
  simp only [List.nil_append, spun]
  congr 2
  omega

theorem info9 : (Try.prog.info? 9).map (fun i => (i.zero, i.size, i.bytes)) = some (some (.string ByteArray.empty), 1, 16) := by kernel_rfl
theorem infos9 : (Try.prog.info? 9).map (·.size) = some 1 := by kernel_rfl
theorem infoss9 : ((Try.prog.info? 9).map (·.size)).isSome = true := by kernel_rfl

/-- what grow leaves. -/
def Grown_s (c n room at_ : Nat) (R : List Value) (closed : Bool) (K : Nat) (w : World) (e : Ending) (w' : World) : Prop :=
  e = .returned (.tuple #[]) ∧ w'.heap[c]? = some (.cells #[.slice (some ⟨w.heap.size, 0, none⟩) K K, .int .i64 0, .int .i64 n, .int .i64 room, .bool closed] 64 (0, 0)) ∧
    w'.heap[w.heap.size]? = some (.cells (spun R at_ ++ (zrow (.string ByteArray.empty) K).drop R.length).toArray 9 (0, 0)) ∧ Keeps (fun k => k = c) w w'

theorem grow_s_a (w : World) (c g n room at_ : Nat) (R : List Value) (closed : Bool) (hc : w.heap[c]? = some (.cells #[.slice (some ⟨g, 0, none⟩) R.length R.length, .int .i64 at_, .int .i64 n, .int .i64 room, .bool closed] 64 (0, 0)))
    (hg : w.heap[g]? = some (.cells R.toArray 9 (0, 0))) (h1c : ∀ v ∈ R, v.oneCell' = true) (hat : at_ < R.length) (_hR : R.length < room) (h1 : room ≤ 65536) (hk1 : (2 : Int) * R.length < 4) (hk2 : (4 : Int) ≤ room) (K : Nat) (hK : 4 = (K : Int)) :
    Calls Try.prog 25 #[.pointer (some ⟨c, 0, none⟩)] w (Grown_s c n room at_ R closed K w) := by
  obtain ⟨i0, hi, hz0, hz1, hz2⟩ := info_parts info9
  have hw2 : IntKind.i64.wrap (2 * (R.length : Int)) = 2 * (R.length : Int) := IntWalk.i64_in _ (by omega)
  have c0 : w.cell? ⟨c, 0, none⟩ = some (.slice (some ⟨g, 0, none⟩) R.length R.length) := cells_at hc 0
  have c1 : w.cell? ⟨c, 1, none⟩ = some (.int .i64 at_) := cells_at hc 1
  have c3 : w.cell? ⟨c, 3, none⟩ = some (.int .i64 room) := cells_at hc 3
  have hcg : c ≠ g := by rintro rfl; rw [hc] at hg; simp at hg
  have hcs : c < w.heap.size := (Array.getElem?_eq_some_iff.1 hc).1
  have hgs : g < w.heap.size := (Array.getElem?_eq_some_iff.1 hg).1
  have hKR : R.length < K := by omega
  have hmk := run_make1 Try.underlying32 hi hz0 rfl hz1 hz2 (by omega) w.drew _ K hK (by omega)
  have HC := hidp hc
  have HG := hidp hg
  have HCG := hidp hcg
  have HK := hidp hK
  clear hc hg hcg hK
  go_enter Try.func25, Try.ntmps25
  go_wp2
  go_still_tail 12, (by kernel_rfl)
  change wpList _ _ _ _ _ w.drew
  go_wp2
  clear hw2 c0 c1 c3 hmk
  -- region 1
  obtain ⟨W2, hW2⟩ : ∃ W2, W2 = (w.alloc (.cells (zrow (.string ByteArray.empty) K).toArray 9)).drew := ⟨_, rfl⟩
  rw [← hW2]
  have K2 : Keeps (fun _ => False) w W2 := hW2 ▸ ((Keeps.refl _ _).alloc _).drew
  have hn2 : W2.heap[w.heap.size]? = some (.cells (zrow (.string ByteArray.empty) K).toArray 9 (0, 0)) := by rw [hW2]; exact heap_alloc_new w _
  have hc2 := (K2.block c hcs (by simp)).trans HC.out
  have hg2 := (K2.block g hgs (by simp)).trans HG.out
  clear hW2
  have c0 : W2.cell? ⟨c, 0, none⟩ = some (.slice (some ⟨g, 0, none⟩) R.length R.length) := cells_at hc2 0
  have c1 : W2.cell? ⟨c, 1, none⟩ = some (.int .i64 at_) := cells_at hc2 1
  have HC2 := hidp hc2
  have HG2 := hidp hg2
  have HN2 := hidp hn2
  clear hc2 hg2 hn2
  have hsl := run_low Try.underlying32 infos9 g 0 R.length R.length at_ (by omega) hat
  simp only [Nat.zero_add] at hsl
  go_still_tail 10, (by kernel_rfl)
  change wpList _ _ _ _ _ W2.drew
  clear hsl
  obtain ⟨W3, hW3⟩ : ∃ W3, W3 = W2.drew := ⟨_, rfl⟩
  rw [← hW3]
  have K3 : Keeps (fun _ => False) w W3 := hW3 ▸ K2.drew
  have hh : W3.heap = W2.heap := by rw [hW3]; rfl
  have hc3 := HC2.out
  have hg3 := HG2.out
  have hn3 := HN2.out
  rw [← hh] at hc3 hg3 hn3
  clear hW3 hh K2 HC2 HG2 HN2 c0 c1
  have hdl : (R.drop at_).length = R.length - at_ := by simp
  have hcp := run_copy_row (P := Try.prog) W3 32 32 3 9 w.heap.size 0 K K ⟨g, at_, none⟩ (R.length - at_) (R.length - at_) _ 9 (R.drop at_) Try.underlying32 infos9 hn3 (by rw [hdl]; exact (Nat.min_eq_left (by omega)).symm)
    (fun j v hj => by
      rw [show (⟨g, at_, none⟩ : Addr).add j = ⟨g, at_ + j, none⟩ by unfold Addr.add; split <;> simp_all, cells_at hg3]
      simpa using hj) (by rw [hdl]; simp [zrow_len]; omega) (fun v hv => h1c v (List.mem_of_mem_drop hv))
  rw [hdl] at hcp
  simp only [splice1] at hcp
  have HN3 := hidp hn3
  have HC3 := hidp hc3
  have HG3 := hidp hg3
  have HD := hidp hdl
  clear hn3 hc3 hg3 hdl
  go_wp2
  -- region 2
  obtain ⟨W4, hW4⟩ : ∃ W4, W4 = W3.setRow w.heap.size (R.drop at_ ++ (zrow (.string ByteArray.empty) K).drop (R.length - at_)).toArray := ⟨_, rfl⟩
  rw [← hW4]
  have hc4 := (setRow_other W3 w.heap.size c (R.drop at_ ++ (zrow (.string ByteArray.empty) K).drop (R.length - at_)).toArray (by omega)).trans HC3.out
  have hg4 := (setRow_other W3 w.heap.size g (R.drop at_ ++ (zrow (.string ByteArray.empty) K).drop (R.length - at_)).toArray (by omega)).trans HG3.out
  have hn4 := setRow_at HN3.out (R.drop at_ ++ (zrow (.string ByteArray.empty) K).drop (R.length - at_)).toArray
  rw [← hW4] at hc4 hg4 hn4
  have K4 : Keeps (fun _ => False) w W4 := hW4 ▸ keeps_setRow K3 (.inr (Nat.le_refl _)) _
  clear hcp hW4 K3 HN3 HC3 HG3
  have c0 : W4.cell? ⟨c, 0, none⟩ = some (.slice (some ⟨g, 0, none⟩) R.length R.length) := cells_at hc4 0
  have c1 : W4.cell? ⟨c, 1, none⟩ = some (.int .i64 at_) := cells_at hc4 1
  have hsl := run_low Try.underlying32 infos9 w.heap.size 0 K K (R.length - at_) (by omega) (by omega)
  have hsh := run_high Try.underlying32 infos9 g 0 R.length R.length at_ (by omega) (by omega)
  simp only [Nat.zero_add] at hsl
  have HN4 := hidp hn4
  have HC4 := hidp hc4
  have HG4 := hidp hg4
  clear hn4 hc4 hg4
  go_still_tail 12, (by kernel_rfl)
  change wpList _ _ _ _ _ W4.drew
  clear hsl hsh
  obtain ⟨W5, hW5⟩ : ∃ W5, W5 = W4.drew := ⟨_, rfl⟩
  rw [← hW5]
  have K5 : Keeps (fun _ => False) w W5 := hW5 ▸ K4.drew
  have hh : W5.heap = W4.heap := by rw [hW5]; rfl
  have hc5 := HC4.out
  have hg5 := HG4.out
  have hn5 := HN4.out
  rw [← hh] at hc5 hg5 hn5
  clear hW5 hh K4 HC4 HG4 HN4 c0 c1
  have htl : (R.take at_).length = at_ := by simp; omega
  have hcp := run_copy_row (P := Try.prog) W5 32 32 3 9 w.heap.size (R.length - at_) (K - (R.length - at_)) (K - (R.length - at_)) ⟨g, 0, none⟩ at_ R.length _ 9 (R.take at_) Try.underlying32 infos9 hn5 (by rw [htl]; exact (Nat.min_eq_left (by omega)).symm)
    (fun j v hj => by
      rw [show (⟨g, 0, none⟩ : Addr).add j = ⟨g, j, none⟩ by unfold Addr.add; split <;> simp_all, cells_at hg5]
      rw [List.getElem?_take] at hj
      split at hj
      · simpa using hj
      · simp at hj) (by rw [htl]; have := HD.out; simp [zrow_len]; omega) (fun v hv => h1c v (List.mem_of_mem_take hv))
  have hsp := splice2 (R := R) (Z := zrow (.string ByteArray.empty) K) (at_ := at_) (by omega)
  simp only at hcp
  rw [hsp, htl] at hcp
  have HN5 := hidp hn5
  have HC5 := hidp hc5
  have HT := hidp htl
  clear hn5 hc5 hg5 htl hsp
  have d0 : (W5.setRow w.heap.size (spun R at_ ++ (zrow (.string ByteArray.empty) K).drop R.length).toArray).heap[c]? = _ := (setRow_other W5 w.heap.size c _ (by omega)).trans HC5.out
  have d1 : (W5.setRow w.heap.size (spun R at_ ++ (zrow (.string ByteArray.empty) K).drop R.length).toArray).heap[w.heap.size]? = _ := setRow_at HN5.out _
  have K6 : Keeps (fun k => k = c) w (W5.setRow w.heap.size (spun R at_ ++ (zrow (.string ByteArray.empty) K).drop R.length).toArray) := keeps_setRow (K5.mono (fun _ _ h => h.elim)) (.inr (Nat.le_refl _)) _
  obtain ⟨W6, hW6⟩ : ∃ W6, W6 = W5.setRow w.heap.size (spun R at_ ++ (zrow (.string ByteArray.empty) K).drop R.length).toArray := ⟨_, rfl⟩
  rw [← hW6] at d0 d1 K6 hcp
  have e0 := cells_at d0 0
  have e1 := cells_at d0 1
  have f0 := free_at d0 0
  have f1 := free_at d0 1
  have hfin : Grown_s c n room at_ R closed K w (.returned (.tuple #[])) ((W6.setCell ⟨c, 0, none⟩ (.slice (some ⟨w.heap.size, 0, none⟩) K K)).setCell ⟨c, 1, none⟩ (.int .i64 0)) :=
    ⟨rfl, by rw [setCell_block (setCell_block d0 0 _)]; simp, by rw [Below.heap_setCell _ _ _ _ (by simp; omega), Below.heap_setCell _ _ _ _ (by simp; omega)]; exact d1, (K6.setCell (.inl rfl) _).setCell (.inl rfl) _⟩
  have HF := hidp hfin
  clear hfin d0 d1 hW6 HN5 HC5 HT K5 K6 HD HC HG HCG
  go_wp2
  go_end0
  exact HF.out

theorem grow_s_b (w : World) (c g n room at_ : Nat) (R : List Value) (closed : Bool) (hc : w.heap[c]? = some (.cells #[.slice (some ⟨g, 0, none⟩) R.length R.length, .int .i64 at_, .int .i64 n, .int .i64 room, .bool closed] 64 (0, 0)))
    (hg : w.heap[g]? = some (.cells R.toArray 9 (0, 0))) (h1c : ∀ v ∈ R, v.oneCell' = true) (hat : at_ < R.length) (hR : R.length < room) (h1 : room ≤ 65536) (hk1 : (2 : Int) * R.length < 4) (hk2 : (room : Int) < 4) (K : Nat) (hK : (room : Int) = (K : Int)) :
    Calls Try.prog 25 #[.pointer (some ⟨c, 0, none⟩)] w (Grown_s c n room at_ R closed K w) := by
  obtain ⟨i0, hi, hz0, hz1, hz2⟩ := info_parts info9
  have hw2 : IntKind.i64.wrap (2 * (R.length : Int)) = 2 * (R.length : Int) := IntWalk.i64_in _ (by omega)
  have c0 : w.cell? ⟨c, 0, none⟩ = some (.slice (some ⟨g, 0, none⟩) R.length R.length) := cells_at hc 0
  have c1 : w.cell? ⟨c, 1, none⟩ = some (.int .i64 at_) := cells_at hc 1
  have c3 : w.cell? ⟨c, 3, none⟩ = some (.int .i64 room) := cells_at hc 3
  have hcg : c ≠ g := by rintro rfl; rw [hc] at hg; simp at hg
  have hcs : c < w.heap.size := (Array.getElem?_eq_some_iff.1 hc).1
  have hgs : g < w.heap.size := (Array.getElem?_eq_some_iff.1 hg).1
  have hKR : R.length < K := by omega
  have hmk := run_make1 Try.underlying32 hi hz0 rfl hz1 hz2 (by omega) w.drew _ K hK (by omega)
  have HC := hidp hc
  have HG := hidp hg
  have HCG := hidp hcg
  have HK := hidp hK
  clear hc hg hcg hK
  go_enter Try.func25, Try.ntmps25
  go_wp2
  go_still_tail 12, (by kernel_rfl)
  change wpList _ _ _ _ _ w.drew
  go_wp2
  clear hw2 c0 c1 c3 hmk
  -- region 1
  obtain ⟨W2, hW2⟩ : ∃ W2, W2 = (w.alloc (.cells (zrow (.string ByteArray.empty) K).toArray 9)).drew := ⟨_, rfl⟩
  rw [← hW2]
  have K2 : Keeps (fun _ => False) w W2 := hW2 ▸ ((Keeps.refl _ _).alloc _).drew
  have hn2 : W2.heap[w.heap.size]? = some (.cells (zrow (.string ByteArray.empty) K).toArray 9 (0, 0)) := by rw [hW2]; exact heap_alloc_new w _
  have hc2 := (K2.block c hcs (by simp)).trans HC.out
  have hg2 := (K2.block g hgs (by simp)).trans HG.out
  clear hW2
  have c0 : W2.cell? ⟨c, 0, none⟩ = some (.slice (some ⟨g, 0, none⟩) R.length R.length) := cells_at hc2 0
  have c1 : W2.cell? ⟨c, 1, none⟩ = some (.int .i64 at_) := cells_at hc2 1
  have HC2 := hidp hc2
  have HG2 := hidp hg2
  have HN2 := hidp hn2
  clear hc2 hg2 hn2
  have hsl := run_low Try.underlying32 infos9 g 0 R.length R.length at_ (by omega) hat
  simp only [Nat.zero_add] at hsl
  go_still_tail 10, (by kernel_rfl)
  change wpList _ _ _ _ _ W2.drew
  clear hsl
  obtain ⟨W3, hW3⟩ : ∃ W3, W3 = W2.drew := ⟨_, rfl⟩
  rw [← hW3]
  have K3 : Keeps (fun _ => False) w W3 := hW3 ▸ K2.drew
  have hh : W3.heap = W2.heap := by rw [hW3]; rfl
  have hc3 := HC2.out
  have hg3 := HG2.out
  have hn3 := HN2.out
  rw [← hh] at hc3 hg3 hn3
  clear hW3 hh K2 HC2 HG2 HN2 c0 c1
  have hdl : (R.drop at_).length = R.length - at_ := by simp
  have hcp := run_copy_row (P := Try.prog) W3 32 32 3 9 w.heap.size 0 K K ⟨g, at_, none⟩ (R.length - at_) (R.length - at_) _ 9 (R.drop at_) Try.underlying32 infos9 hn3 (by rw [hdl]; exact (Nat.min_eq_left (by omega)).symm)
    (fun j v hj => by
      rw [show (⟨g, at_, none⟩ : Addr).add j = ⟨g, at_ + j, none⟩ by unfold Addr.add; split <;> simp_all, cells_at hg3]
      simpa using hj) (by rw [hdl]; simp [zrow_len]; omega) (fun v hv => h1c v (List.mem_of_mem_drop hv))
  rw [hdl] at hcp
  simp only [splice1] at hcp
  have HN3 := hidp hn3
  have HC3 := hidp hc3
  have HG3 := hidp hg3
  have HD := hidp hdl
  clear hn3 hc3 hg3 hdl
  go_wp2
  -- region 2
  obtain ⟨W4, hW4⟩ : ∃ W4, W4 = W3.setRow w.heap.size (R.drop at_ ++ (zrow (.string ByteArray.empty) K).drop (R.length - at_)).toArray := ⟨_, rfl⟩
  rw [← hW4]
  have hc4 := (setRow_other W3 w.heap.size c (R.drop at_ ++ (zrow (.string ByteArray.empty) K).drop (R.length - at_)).toArray (by omega)).trans HC3.out
  have hg4 := (setRow_other W3 w.heap.size g (R.drop at_ ++ (zrow (.string ByteArray.empty) K).drop (R.length - at_)).toArray (by omega)).trans HG3.out
  have hn4 := setRow_at HN3.out (R.drop at_ ++ (zrow (.string ByteArray.empty) K).drop (R.length - at_)).toArray
  rw [← hW4] at hc4 hg4 hn4
  have K4 : Keeps (fun _ => False) w W4 := hW4 ▸ keeps_setRow K3 (.inr (Nat.le_refl _)) _
  clear hcp hW4 K3 HN3 HC3 HG3
  have c0 : W4.cell? ⟨c, 0, none⟩ = some (.slice (some ⟨g, 0, none⟩) R.length R.length) := cells_at hc4 0
  have c1 : W4.cell? ⟨c, 1, none⟩ = some (.int .i64 at_) := cells_at hc4 1
  have hsl := run_low Try.underlying32 infos9 w.heap.size 0 K K (R.length - at_) (by omega) (by omega)
  have hsh := run_high Try.underlying32 infos9 g 0 R.length R.length at_ (by omega) (by omega)
  simp only [Nat.zero_add] at hsl
  have HN4 := hidp hn4
  have HC4 := hidp hc4
  have HG4 := hidp hg4
  clear hn4 hc4 hg4
  go_still_tail 12, (by kernel_rfl)
  change wpList _ _ _ _ _ W4.drew
  clear hsl hsh
  obtain ⟨W5, hW5⟩ : ∃ W5, W5 = W4.drew := ⟨_, rfl⟩
  rw [← hW5]
  have K5 : Keeps (fun _ => False) w W5 := hW5 ▸ K4.drew
  have hh : W5.heap = W4.heap := by rw [hW5]; rfl
  have hc5 := HC4.out
  have hg5 := HG4.out
  have hn5 := HN4.out
  rw [← hh] at hc5 hg5 hn5
  clear hW5 hh K4 HC4 HG4 HN4 c0 c1
  have htl : (R.take at_).length = at_ := by simp; omega
  have hcp := run_copy_row (P := Try.prog) W5 32 32 3 9 w.heap.size (R.length - at_) (K - (R.length - at_)) (K - (R.length - at_)) ⟨g, 0, none⟩ at_ R.length _ 9 (R.take at_) Try.underlying32 infos9 hn5 (by rw [htl]; exact (Nat.min_eq_left (by omega)).symm)
    (fun j v hj => by
      rw [show (⟨g, 0, none⟩ : Addr).add j = ⟨g, j, none⟩ by unfold Addr.add; split <;> simp_all, cells_at hg5]
      rw [List.getElem?_take] at hj
      split at hj
      · simpa using hj
      · simp at hj) (by rw [htl]; have := HD.out; simp [zrow_len]; omega) (fun v hv => h1c v (List.mem_of_mem_take hv))
  have hsp := splice2 (R := R) (Z := zrow (.string ByteArray.empty) K) (at_ := at_) (by omega)
  simp only at hcp
  rw [hsp, htl] at hcp
  have HN5 := hidp hn5
  have HC5 := hidp hc5
  have HT := hidp htl
  clear hn5 hc5 hg5 htl hsp
  have d0 : (W5.setRow w.heap.size (spun R at_ ++ (zrow (.string ByteArray.empty) K).drop R.length).toArray).heap[c]? = _ := (setRow_other W5 w.heap.size c _ (by omega)).trans HC5.out
  have d1 : (W5.setRow w.heap.size (spun R at_ ++ (zrow (.string ByteArray.empty) K).drop R.length).toArray).heap[w.heap.size]? = _ := setRow_at HN5.out _
  have K6 : Keeps (fun k => k = c) w (W5.setRow w.heap.size (spun R at_ ++ (zrow (.string ByteArray.empty) K).drop R.length).toArray) := keeps_setRow (K5.mono (fun _ _ h => h.elim)) (.inr (Nat.le_refl _)) _
  obtain ⟨W6, hW6⟩ : ∃ W6, W6 = W5.setRow w.heap.size (spun R at_ ++ (zrow (.string ByteArray.empty) K).drop R.length).toArray := ⟨_, rfl⟩
  rw [← hW6] at d0 d1 K6 hcp
  have e0 := cells_at d0 0
  have e1 := cells_at d0 1
  have f0 := free_at d0 0
  have f1 := free_at d0 1
  have hfin : Grown_s c n room at_ R closed K w (.returned (.tuple #[])) ((W6.setCell ⟨c, 0, none⟩ (.slice (some ⟨w.heap.size, 0, none⟩) K K)).setCell ⟨c, 1, none⟩ (.int .i64 0)) :=
    ⟨rfl, by rw [setCell_block (setCell_block d0 0 _)]; simp, by rw [Below.heap_setCell _ _ _ _ (by simp; omega), Below.heap_setCell _ _ _ _ (by simp; omega)]; exact d1, (K6.setCell (.inl rfl) _).setCell (.inl rfl) _⟩
  have HF := hidp hfin
  clear hfin d0 d1 hW6 HN5 HC5 HT K5 K6 HD HC HG HCG
  go_wp2
  go_end0
  exact HF.out

theorem grow_s_c (w : World) (c g n room at_ : Nat) (R : List Value) (closed : Bool) (hc : w.heap[c]? = some (.cells #[.slice (some ⟨g, 0, none⟩) R.length R.length, .int .i64 at_, .int .i64 n, .int .i64 room, .bool closed] 64 (0, 0)))
    (hg : w.heap[g]? = some (.cells R.toArray 9 (0, 0))) (h1c : ∀ v ∈ R, v.oneCell' = true) (hat : at_ < R.length) (_hR : R.length < room) (h1 : room ≤ 65536) (hk1 : 4 ≤ (2 : Int) * R.length) (hk2 : 2 * (R.length : Int) ≤ room) (K : Nat) (hK : 2 * (R.length : Int) = (K : Int)) :
    Calls Try.prog 25 #[.pointer (some ⟨c, 0, none⟩)] w (Grown_s c n room at_ R closed K w) := by
  obtain ⟨i0, hi, hz0, hz1, hz2⟩ := info_parts info9
  have hw2 : IntKind.i64.wrap (2 * (R.length : Int)) = 2 * (R.length : Int) := IntWalk.i64_in _ (by omega)
  have c0 : w.cell? ⟨c, 0, none⟩ = some (.slice (some ⟨g, 0, none⟩) R.length R.length) := cells_at hc 0
  have c1 : w.cell? ⟨c, 1, none⟩ = some (.int .i64 at_) := cells_at hc 1
  have c3 : w.cell? ⟨c, 3, none⟩ = some (.int .i64 room) := cells_at hc 3
  have hcg : c ≠ g := by rintro rfl; rw [hc] at hg; simp at hg
  have hcs : c < w.heap.size := (Array.getElem?_eq_some_iff.1 hc).1
  have hgs : g < w.heap.size := (Array.getElem?_eq_some_iff.1 hg).1
  have hKR : R.length < K := by omega
  have hmk := run_make1 Try.underlying32 hi hz0 rfl hz1 hz2 (by omega) w.drew _ K hK (by omega)
  have HC := hidp hc
  have HG := hidp hg
  have HCG := hidp hcg
  have HK := hidp hK
  clear hc hg hcg hK
  go_enter Try.func25, Try.ntmps25
  go_wp2
  go_still_tail 12, (by kernel_rfl)
  change wpList _ _ _ _ _ w.drew
  go_wp2
  clear hw2 c0 c1 c3 hmk
  -- region 1
  obtain ⟨W2, hW2⟩ : ∃ W2, W2 = (w.alloc (.cells (zrow (.string ByteArray.empty) K).toArray 9)).drew := ⟨_, rfl⟩
  rw [← hW2]
  have K2 : Keeps (fun _ => False) w W2 := hW2 ▸ ((Keeps.refl _ _).alloc _).drew
  have hn2 : W2.heap[w.heap.size]? = some (.cells (zrow (.string ByteArray.empty) K).toArray 9 (0, 0)) := by rw [hW2]; exact heap_alloc_new w _
  have hc2 := (K2.block c hcs (by simp)).trans HC.out
  have hg2 := (K2.block g hgs (by simp)).trans HG.out
  clear hW2
  have c0 : W2.cell? ⟨c, 0, none⟩ = some (.slice (some ⟨g, 0, none⟩) R.length R.length) := cells_at hc2 0
  have c1 : W2.cell? ⟨c, 1, none⟩ = some (.int .i64 at_) := cells_at hc2 1
  have HC2 := hidp hc2
  have HG2 := hidp hg2
  have HN2 := hidp hn2
  clear hc2 hg2 hn2
  have hsl := run_low Try.underlying32 infos9 g 0 R.length R.length at_ (by omega) hat
  simp only [Nat.zero_add] at hsl
  go_still_tail 10, (by kernel_rfl)
  change wpList _ _ _ _ _ W2.drew
  clear hsl
  obtain ⟨W3, hW3⟩ : ∃ W3, W3 = W2.drew := ⟨_, rfl⟩
  rw [← hW3]
  have K3 : Keeps (fun _ => False) w W3 := hW3 ▸ K2.drew
  have hh : W3.heap = W2.heap := by rw [hW3]; rfl
  have hc3 := HC2.out
  have hg3 := HG2.out
  have hn3 := HN2.out
  rw [← hh] at hc3 hg3 hn3
  clear hW3 hh K2 HC2 HG2 HN2 c0 c1
  have hdl : (R.drop at_).length = R.length - at_ := by simp
  have hcp := run_copy_row (P := Try.prog) W3 32 32 3 9 w.heap.size 0 K K ⟨g, at_, none⟩ (R.length - at_) (R.length - at_) _ 9 (R.drop at_) Try.underlying32 infos9 hn3 (by rw [hdl]; exact (Nat.min_eq_left (by omega)).symm)
    (fun j v hj => by
      rw [show (⟨g, at_, none⟩ : Addr).add j = ⟨g, at_ + j, none⟩ by unfold Addr.add; split <;> simp_all, cells_at hg3]
      simpa using hj) (by rw [hdl]; simp [zrow_len]; omega) (fun v hv => h1c v (List.mem_of_mem_drop hv))
  rw [hdl] at hcp
  simp only [splice1] at hcp
  have HN3 := hidp hn3
  have HC3 := hidp hc3
  have HG3 := hidp hg3
  have HD := hidp hdl
  clear hn3 hc3 hg3 hdl
  go_wp2
  -- region 2
  obtain ⟨W4, hW4⟩ : ∃ W4, W4 = W3.setRow w.heap.size (R.drop at_ ++ (zrow (.string ByteArray.empty) K).drop (R.length - at_)).toArray := ⟨_, rfl⟩
  rw [← hW4]
  have hc4 := (setRow_other W3 w.heap.size c (R.drop at_ ++ (zrow (.string ByteArray.empty) K).drop (R.length - at_)).toArray (by omega)).trans HC3.out
  have hg4 := (setRow_other W3 w.heap.size g (R.drop at_ ++ (zrow (.string ByteArray.empty) K).drop (R.length - at_)).toArray (by omega)).trans HG3.out
  have hn4 := setRow_at HN3.out (R.drop at_ ++ (zrow (.string ByteArray.empty) K).drop (R.length - at_)).toArray
  rw [← hW4] at hc4 hg4 hn4
  have K4 : Keeps (fun _ => False) w W4 := hW4 ▸ keeps_setRow K3 (.inr (Nat.le_refl _)) _
  clear hcp hW4 K3 HN3 HC3 HG3
  have c0 : W4.cell? ⟨c, 0, none⟩ = some (.slice (some ⟨g, 0, none⟩) R.length R.length) := cells_at hc4 0
  have c1 : W4.cell? ⟨c, 1, none⟩ = some (.int .i64 at_) := cells_at hc4 1
  have hsl := run_low Try.underlying32 infos9 w.heap.size 0 K K (R.length - at_) (by omega) (by omega)
  have hsh := run_high Try.underlying32 infos9 g 0 R.length R.length at_ (by omega) (by omega)
  simp only [Nat.zero_add] at hsl
  have HN4 := hidp hn4
  have HC4 := hidp hc4
  have HG4 := hidp hg4
  clear hn4 hc4 hg4
  go_still_tail 12, (by kernel_rfl)
  change wpList _ _ _ _ _ W4.drew
  clear hsl hsh
  obtain ⟨W5, hW5⟩ : ∃ W5, W5 = W4.drew := ⟨_, rfl⟩
  rw [← hW5]
  have K5 : Keeps (fun _ => False) w W5 := hW5 ▸ K4.drew
  have hh : W5.heap = W4.heap := by rw [hW5]; rfl
  have hc5 := HC4.out
  have hg5 := HG4.out
  have hn5 := HN4.out
  rw [← hh] at hc5 hg5 hn5
  clear hW5 hh K4 HC4 HG4 HN4 c0 c1
  have htl : (R.take at_).length = at_ := by simp; omega
  have hcp := run_copy_row (P := Try.prog) W5 32 32 3 9 w.heap.size (R.length - at_) (K - (R.length - at_)) (K - (R.length - at_)) ⟨g, 0, none⟩ at_ R.length _ 9 (R.take at_) Try.underlying32 infos9 hn5 (by rw [htl]; exact (Nat.min_eq_left (by omega)).symm)
    (fun j v hj => by
      rw [show (⟨g, 0, none⟩ : Addr).add j = ⟨g, j, none⟩ by unfold Addr.add; split <;> simp_all, cells_at hg5]
      rw [List.getElem?_take] at hj
      split at hj
      · simpa using hj
      · simp at hj) (by rw [htl]; have := HD.out; simp [zrow_len]; omega) (fun v hv => h1c v (List.mem_of_mem_take hv))
  have hsp := splice2 (R := R) (Z := zrow (.string ByteArray.empty) K) (at_ := at_) (by omega)
  simp only at hcp
  rw [hsp, htl] at hcp
  have HN5 := hidp hn5
  have HC5 := hidp hc5
  have HT := hidp htl
  clear hn5 hc5 hg5 htl hsp
  have d0 : (W5.setRow w.heap.size (spun R at_ ++ (zrow (.string ByteArray.empty) K).drop R.length).toArray).heap[c]? = _ := (setRow_other W5 w.heap.size c _ (by omega)).trans HC5.out
  have d1 : (W5.setRow w.heap.size (spun R at_ ++ (zrow (.string ByteArray.empty) K).drop R.length).toArray).heap[w.heap.size]? = _ := setRow_at HN5.out _
  have K6 : Keeps (fun k => k = c) w (W5.setRow w.heap.size (spun R at_ ++ (zrow (.string ByteArray.empty) K).drop R.length).toArray) := keeps_setRow (K5.mono (fun _ _ h => h.elim)) (.inr (Nat.le_refl _)) _
  obtain ⟨W6, hW6⟩ : ∃ W6, W6 = W5.setRow w.heap.size (spun R at_ ++ (zrow (.string ByteArray.empty) K).drop R.length).toArray := ⟨_, rfl⟩
  rw [← hW6] at d0 d1 K6 hcp
  have e0 := cells_at d0 0
  have e1 := cells_at d0 1
  have f0 := free_at d0 0
  have f1 := free_at d0 1
  have hfin : Grown_s c n room at_ R closed K w (.returned (.tuple #[])) ((W6.setCell ⟨c, 0, none⟩ (.slice (some ⟨w.heap.size, 0, none⟩) K K)).setCell ⟨c, 1, none⟩ (.int .i64 0)) :=
    ⟨rfl, by rw [setCell_block (setCell_block d0 0 _)]; simp, by rw [Below.heap_setCell _ _ _ _ (by simp; omega), Below.heap_setCell _ _ _ _ (by simp; omega)]; exact d1, (K6.setCell (.inl rfl) _).setCell (.inl rfl) _⟩
  have HF := hidp hfin
  clear hfin d0 d1 hW6 HN5 HC5 HT K5 K6 HD HC HG HCG
  go_wp2
  go_end0
  exact HF.out

theorem grow_s_d (w : World) (c g n room at_ : Nat) (R : List Value) (closed : Bool) (hc : w.heap[c]? = some (.cells #[.slice (some ⟨g, 0, none⟩) R.length R.length, .int .i64 at_, .int .i64 n, .int .i64 room, .bool closed] 64 (0, 0)))
    (hg : w.heap[g]? = some (.cells R.toArray 9 (0, 0))) (h1c : ∀ v ∈ R, v.oneCell' = true) (hat : at_ < R.length) (hR : R.length < room) (h1 : room ≤ 65536) (hk1 : 4 ≤ (2 : Int) * R.length) (hk2 : (room : Int) < 2 * (R.length : Int)) (K : Nat) (hK : (room : Int) = (K : Int)) :
    Calls Try.prog 25 #[.pointer (some ⟨c, 0, none⟩)] w (Grown_s c n room at_ R closed K w) := by
  obtain ⟨i0, hi, hz0, hz1, hz2⟩ := info_parts info9
  have hw2 : IntKind.i64.wrap (2 * (R.length : Int)) = 2 * (R.length : Int) := IntWalk.i64_in _ (by omega)
  have c0 : w.cell? ⟨c, 0, none⟩ = some (.slice (some ⟨g, 0, none⟩) R.length R.length) := cells_at hc 0
  have c1 : w.cell? ⟨c, 1, none⟩ = some (.int .i64 at_) := cells_at hc 1
  have c3 : w.cell? ⟨c, 3, none⟩ = some (.int .i64 room) := cells_at hc 3
  have hcg : c ≠ g := by rintro rfl; rw [hc] at hg; simp at hg
  have hcs : c < w.heap.size := (Array.getElem?_eq_some_iff.1 hc).1
  have hgs : g < w.heap.size := (Array.getElem?_eq_some_iff.1 hg).1
  have hKR : R.length < K := by omega
  have hmk := run_make1 Try.underlying32 hi hz0 rfl hz1 hz2 (by omega) w.drew _ K hK (by omega)
  have HC := hidp hc
  have HG := hidp hg
  have HCG := hidp hcg
  have HK := hidp hK
  clear hc hg hcg hK
  go_enter Try.func25, Try.ntmps25
  go_wp2
  go_still_tail 12, (by kernel_rfl)
  change wpList _ _ _ _ _ w.drew
  go_wp2
  clear hw2 c0 c1 c3 hmk
  -- region 1
  obtain ⟨W2, hW2⟩ : ∃ W2, W2 = (w.alloc (.cells (zrow (.string ByteArray.empty) K).toArray 9)).drew := ⟨_, rfl⟩
  rw [← hW2]
  have K2 : Keeps (fun _ => False) w W2 := hW2 ▸ ((Keeps.refl _ _).alloc _).drew
  have hn2 : W2.heap[w.heap.size]? = some (.cells (zrow (.string ByteArray.empty) K).toArray 9 (0, 0)) := by rw [hW2]; exact heap_alloc_new w _
  have hc2 := (K2.block c hcs (by simp)).trans HC.out
  have hg2 := (K2.block g hgs (by simp)).trans HG.out
  clear hW2
  have c0 : W2.cell? ⟨c, 0, none⟩ = some (.slice (some ⟨g, 0, none⟩) R.length R.length) := cells_at hc2 0
  have c1 : W2.cell? ⟨c, 1, none⟩ = some (.int .i64 at_) := cells_at hc2 1
  have HC2 := hidp hc2
  have HG2 := hidp hg2
  have HN2 := hidp hn2
  clear hc2 hg2 hn2
  have hsl := run_low Try.underlying32 infos9 g 0 R.length R.length at_ (by omega) hat
  simp only [Nat.zero_add] at hsl
  go_still_tail 10, (by kernel_rfl)
  change wpList _ _ _ _ _ W2.drew
  clear hsl
  obtain ⟨W3, hW3⟩ : ∃ W3, W3 = W2.drew := ⟨_, rfl⟩
  rw [← hW3]
  have K3 : Keeps (fun _ => False) w W3 := hW3 ▸ K2.drew
  have hh : W3.heap = W2.heap := by rw [hW3]; rfl
  have hc3 := HC2.out
  have hg3 := HG2.out
  have hn3 := HN2.out
  rw [← hh] at hc3 hg3 hn3
  clear hW3 hh K2 HC2 HG2 HN2 c0 c1
  have hdl : (R.drop at_).length = R.length - at_ := by simp
  have hcp := run_copy_row (P := Try.prog) W3 32 32 3 9 w.heap.size 0 K K ⟨g, at_, none⟩ (R.length - at_) (R.length - at_) _ 9 (R.drop at_) Try.underlying32 infos9 hn3 (by rw [hdl]; exact (Nat.min_eq_left (by omega)).symm)
    (fun j v hj => by
      rw [show (⟨g, at_, none⟩ : Addr).add j = ⟨g, at_ + j, none⟩ by unfold Addr.add; split <;> simp_all, cells_at hg3]
      simpa using hj) (by rw [hdl]; simp [zrow_len]; omega) (fun v hv => h1c v (List.mem_of_mem_drop hv))
  rw [hdl] at hcp
  simp only [splice1] at hcp
  have HN3 := hidp hn3
  have HC3 := hidp hc3
  have HG3 := hidp hg3
  have HD := hidp hdl
  clear hn3 hc3 hg3 hdl
  go_wp2
  -- region 2
  obtain ⟨W4, hW4⟩ : ∃ W4, W4 = W3.setRow w.heap.size (R.drop at_ ++ (zrow (.string ByteArray.empty) K).drop (R.length - at_)).toArray := ⟨_, rfl⟩
  rw [← hW4]
  have hc4 := (setRow_other W3 w.heap.size c (R.drop at_ ++ (zrow (.string ByteArray.empty) K).drop (R.length - at_)).toArray (by omega)).trans HC3.out
  have hg4 := (setRow_other W3 w.heap.size g (R.drop at_ ++ (zrow (.string ByteArray.empty) K).drop (R.length - at_)).toArray (by omega)).trans HG3.out
  have hn4 := setRow_at HN3.out (R.drop at_ ++ (zrow (.string ByteArray.empty) K).drop (R.length - at_)).toArray
  rw [← hW4] at hc4 hg4 hn4
  have K4 : Keeps (fun _ => False) w W4 := hW4 ▸ keeps_setRow K3 (.inr (Nat.le_refl _)) _
  clear hcp hW4 K3 HN3 HC3 HG3
  have c0 : W4.cell? ⟨c, 0, none⟩ = some (.slice (some ⟨g, 0, none⟩) R.length R.length) := cells_at hc4 0
  have c1 : W4.cell? ⟨c, 1, none⟩ = some (.int .i64 at_) := cells_at hc4 1
  have hsl := run_low Try.underlying32 infos9 w.heap.size 0 K K (R.length - at_) (by omega) (by omega)
  have hsh := run_high Try.underlying32 infos9 g 0 R.length R.length at_ (by omega) (by omega)
  simp only [Nat.zero_add] at hsl
  have HN4 := hidp hn4
  have HC4 := hidp hc4
  have HG4 := hidp hg4
  clear hn4 hc4 hg4
  go_still_tail 12, (by kernel_rfl)
  change wpList _ _ _ _ _ W4.drew
  clear hsl hsh
  obtain ⟨W5, hW5⟩ : ∃ W5, W5 = W4.drew := ⟨_, rfl⟩
  rw [← hW5]
  have K5 : Keeps (fun _ => False) w W5 := hW5 ▸ K4.drew
  have hh : W5.heap = W4.heap := by rw [hW5]; rfl
  have hc5 := HC4.out
  have hg5 := HG4.out
  have hn5 := HN4.out
  rw [← hh] at hc5 hg5 hn5
  clear hW5 hh K4 HC4 HG4 HN4 c0 c1
  have htl : (R.take at_).length = at_ := by simp; omega
  have hcp := run_copy_row (P := Try.prog) W5 32 32 3 9 w.heap.size (R.length - at_) (K - (R.length - at_)) (K - (R.length - at_)) ⟨g, 0, none⟩ at_ R.length _ 9 (R.take at_) Try.underlying32 infos9 hn5 (by rw [htl]; exact (Nat.min_eq_left (by omega)).symm)
    (fun j v hj => by
      rw [show (⟨g, 0, none⟩ : Addr).add j = ⟨g, j, none⟩ by unfold Addr.add; split <;> simp_all, cells_at hg5]
      rw [List.getElem?_take] at hj
      split at hj
      · simpa using hj
      · simp at hj) (by rw [htl]; have := HD.out; simp [zrow_len]; omega) (fun v hv => h1c v (List.mem_of_mem_take hv))
  have hsp := splice2 (R := R) (Z := zrow (.string ByteArray.empty) K) (at_ := at_) (by omega)
  simp only at hcp
  rw [hsp, htl] at hcp
  have HN5 := hidp hn5
  have HC5 := hidp hc5
  have HT := hidp htl
  clear hn5 hc5 hg5 htl hsp
  have d0 : (W5.setRow w.heap.size (spun R at_ ++ (zrow (.string ByteArray.empty) K).drop R.length).toArray).heap[c]? = _ := (setRow_other W5 w.heap.size c _ (by omega)).trans HC5.out
  have d1 : (W5.setRow w.heap.size (spun R at_ ++ (zrow (.string ByteArray.empty) K).drop R.length).toArray).heap[w.heap.size]? = _ := setRow_at HN5.out _
  have K6 : Keeps (fun k => k = c) w (W5.setRow w.heap.size (spun R at_ ++ (zrow (.string ByteArray.empty) K).drop R.length).toArray) := keeps_setRow (K5.mono (fun _ _ h => h.elim)) (.inr (Nat.le_refl _)) _
  obtain ⟨W6, hW6⟩ : ∃ W6, W6 = W5.setRow w.heap.size (spun R at_ ++ (zrow (.string ByteArray.empty) K).drop R.length).toArray := ⟨_, rfl⟩
  rw [← hW6] at d0 d1 K6 hcp
  have e0 := cells_at d0 0
  have e1 := cells_at d0 1
  have f0 := free_at d0 0
  have f1 := free_at d0 1
  have hfin : Grown_s c n room at_ R closed K w (.returned (.tuple #[])) ((W6.setCell ⟨c, 0, none⟩ (.slice (some ⟨w.heap.size, 0, none⟩) K K)).setCell ⟨c, 1, none⟩ (.int .i64 0)) :=
    ⟨rfl, by rw [setCell_block (setCell_block d0 0 _)]; simp, by rw [Below.heap_setCell _ _ _ _ (by simp; omega), Below.heap_setCell _ _ _ _ (by simp; omega)]; exact d1, (K6.setCell (.inl rfl) _).setCell (.inl rfl) _⟩
  have HF := hidp hfin
  clear hfin d0 d1 hW6 HN5 HC5 HT K5 K6 HD HC HG HCG
  go_wp2
  go_end0
  exact HF.out

theorem grow0_s_a (w : World) (c n room : Nat) (closed : Bool) (hc : w.heap[c]? = some (.cells #[.slice none 0 0, .int .i64 0, .int .i64 n, .int .i64 room, .bool closed] 64 (0, 0)))
    (_h0 : 1 ≤ room) (hk2 : (4 : Int) ≤ room) (K : Nat) (hK : 4 = (K : Int)) :
    Calls Try.prog 25 #[.pointer (some ⟨c, 0, none⟩)] w (Grown_s c n room 0 [] closed K w) := by
  obtain ⟨i0, hi, hz0, hz1, hz2⟩ := info_parts info9
  have c0 : w.cell? ⟨c, 0, none⟩ = some (.slice none 0 0) := cells_at hc 0
  have c1 : w.cell? ⟨c, 1, none⟩ = some (.int .i64 0) := cells_at hc 1
  have c3 : w.cell? ⟨c, 3, none⟩ = some (.int .i64 room) := cells_at hc 3
  have hcs : c < w.heap.size := (Array.getElem?_eq_some_iff.1 hc).1
  have hK0 : 0 < K := by omega
  have hw2 : IntKind.i64.wrap 0 = 0 := rfl
  have hmk := run_make1 Try.underlying32 hi hz0 rfl hz1 hz2 (by omega) w.drew _ K hK (by omega)
  have HC := hidp hc
  have HK := hidp hK
  clear hc hK
  go_enter Try.func25, Try.ntmps25
  go_wp2
  go_still_tail 12, (by kernel_rfl)
  change wpList _ _ _ _ _ w.drew
  go_wp2
  clear c0 c1 c3 hmk hw2
  -- region 1
  obtain ⟨W2, hW2⟩ : ∃ W2, W2 = (w.alloc (.cells (zrow (.string ByteArray.empty) K).toArray 9)).drew := ⟨_, rfl⟩
  rw [← hW2]
  have K2 : Keeps (fun _ => False) w W2 := hW2 ▸ ((Keeps.refl _ _).alloc _).drew
  have hn2 : W2.heap[w.heap.size]? = some (.cells (zrow (.string ByteArray.empty) K).toArray 9 (0, 0)) := by rw [hW2]; exact heap_alloc_new w _
  have hc2 := (K2.block c hcs (by simp)).trans HC.out
  clear hW2
  have c0 : W2.cell? ⟨c, 0, none⟩ = some (.slice none 0 0) := cells_at hc2 0
  have c1 : W2.cell? ⟨c, 1, none⟩ = some (.int .i64 0) := cells_at hc2 1
  have HC2 := hidp hc2
  have HN2 := hidp hn2
  clear hc2 hn2
  have hsn := run_low_nil Try.underlying32 infos9
  go_still_tail 10, (by kernel_rfl)
  change wpList _ _ _ _ _ W2.drew
  have hcp := run_copy_nil (P := Try.prog) W2.drew 32 32 3 9 ⟨w.heap.size, 0, none⟩ K K Try.underlying32 infoss9
  go_wp2
  clear hcp c0 c1
  -- region 2
  obtain ⟨W3, hW3⟩ : ∃ W3, W3 = W2.drew := ⟨_, rfl⟩
  rw [← hW3]
  have K3 : Keeps (fun _ => False) w W3 := hW3 ▸ K2.drew
  have hh : W3.heap = W2.heap := by rw [hW3]; rfl
  have hc3 := HC2.out
  have hn3 := HN2.out
  rw [← hh] at hc3 hn3
  clear hW3 hh K2 HC2 HN2
  have c0 : W3.cell? ⟨c, 0, none⟩ = some (.slice none 0 0) := cells_at hc3 0
  have c1 : W3.cell? ⟨c, 1, none⟩ = some (.int .i64 0) := cells_at hc3 1
  have HC3 := hidp hc3
  have HN3 := hidp hn3
  clear hc3 hn3
  have hsl : ∀ w', (Instr.slice 32 (.slice (some ⟨w.heap.size, 0, none⟩) K K) (some (.int .i64 0)) none none).run Try.prog w' = .ok (.slice (some ⟨w.heap.size, 0, none⟩) K K) w' := run_low Try.underlying32 infos9 w.heap.size 0 K K 0 (by omega) (by omega)
  have hsh := run_high_nil Try.underlying32 infos9
  go_still_tail 12, (by kernel_rfl)
  change wpList _ _ _ _ _ W3.drew
  have hcp := run_copy_nil (P := Try.prog) W3.drew 32 32 3 9 ⟨w.heap.size, 0, none⟩ K K Try.underlying32 infoss9
  have d0 : W3.drew.heap[c]? = _ := HC3.out
  have d1 : W3.drew.heap[w.heap.size]? = _ := HN3.out
  have K6 : Keeps (fun k => k = c) w W3.drew := (K3.mono (fun _ _ h => h.elim)).drew
  obtain ⟨W6, hW6⟩ : ∃ W6, W6 = W3.drew := ⟨_, rfl⟩
  rw [← hW6] at d0 d1 K6 hcp ⊢
  have e0 := cells_at d0 0
  have e1 := cells_at d0 1
  have f0 := free_at d0 0
  have f1 := free_at d0 1
  have hfin : Grown_s c n room 0 [] closed K w (.returned (.tuple #[])) ((W6.setCell ⟨c, 0, none⟩ (.slice (some ⟨w.heap.size, 0, none⟩) K K)).setCell ⟨c, 1, none⟩ (.int .i64 0)) :=
    ⟨rfl, by rw [setCell_block (setCell_block d0 0 _)]; simp, by rw [Below.heap_setCell _ _ _ _ (by simp; omega), Below.heap_setCell _ _ _ _ (by simp; omega)]; exact d1, (K6.setCell (.inl rfl) _).setCell (.inl rfl) _⟩
  have HF := hidp hfin
  clear hfin d0 d1 hW6 HC3 HN3 K6 HC c0 c1 hsl hsh hsn
  go_wp2
  go_end0
  exact HF.out

theorem grow0_s_b (w : World) (c n room : Nat) (closed : Bool) (hc : w.heap[c]? = some (.cells #[.slice none 0 0, .int .i64 0, .int .i64 n, .int .i64 room, .bool closed] 64 (0, 0)))
    (h0 : 1 ≤ room) (hk2 : (room : Int) < 4) (K : Nat) (hK : (room : Int) = (K : Int)) :
    Calls Try.prog 25 #[.pointer (some ⟨c, 0, none⟩)] w (Grown_s c n room 0 [] closed K w) := by
  obtain ⟨i0, hi, hz0, hz1, hz2⟩ := info_parts info9
  have c0 : w.cell? ⟨c, 0, none⟩ = some (.slice none 0 0) := cells_at hc 0
  have c1 : w.cell? ⟨c, 1, none⟩ = some (.int .i64 0) := cells_at hc 1
  have c3 : w.cell? ⟨c, 3, none⟩ = some (.int .i64 room) := cells_at hc 3
  have hcs : c < w.heap.size := (Array.getElem?_eq_some_iff.1 hc).1
  have hK0 : 0 < K := by omega
  have hw2 : IntKind.i64.wrap 0 = 0 := rfl
  have hmk := run_make1 Try.underlying32 hi hz0 rfl hz1 hz2 (by omega) w.drew _ K hK (by omega)
  have HC := hidp hc
  have HK := hidp hK
  clear hc hK
  go_enter Try.func25, Try.ntmps25
  go_wp2
  go_still_tail 12, (by kernel_rfl)
  change wpList _ _ _ _ _ w.drew
  go_wp2
  clear c0 c1 c3 hmk hw2
  -- region 1
  obtain ⟨W2, hW2⟩ : ∃ W2, W2 = (w.alloc (.cells (zrow (.string ByteArray.empty) K).toArray 9)).drew := ⟨_, rfl⟩
  rw [← hW2]
  have K2 : Keeps (fun _ => False) w W2 := hW2 ▸ ((Keeps.refl _ _).alloc _).drew
  have hn2 : W2.heap[w.heap.size]? = some (.cells (zrow (.string ByteArray.empty) K).toArray 9 (0, 0)) := by rw [hW2]; exact heap_alloc_new w _
  have hc2 := (K2.block c hcs (by simp)).trans HC.out
  clear hW2
  have c0 : W2.cell? ⟨c, 0, none⟩ = some (.slice none 0 0) := cells_at hc2 0
  have c1 : W2.cell? ⟨c, 1, none⟩ = some (.int .i64 0) := cells_at hc2 1
  have HC2 := hidp hc2
  have HN2 := hidp hn2
  clear hc2 hn2
  have hsn := run_low_nil Try.underlying32 infos9
  go_still_tail 10, (by kernel_rfl)
  change wpList _ _ _ _ _ W2.drew
  have hcp := run_copy_nil (P := Try.prog) W2.drew 32 32 3 9 ⟨w.heap.size, 0, none⟩ K K Try.underlying32 infoss9
  go_wp2
  clear hcp c0 c1
  -- region 2
  obtain ⟨W3, hW3⟩ : ∃ W3, W3 = W2.drew := ⟨_, rfl⟩
  rw [← hW3]
  have K3 : Keeps (fun _ => False) w W3 := hW3 ▸ K2.drew
  have hh : W3.heap = W2.heap := by rw [hW3]; rfl
  have hc3 := HC2.out
  have hn3 := HN2.out
  rw [← hh] at hc3 hn3
  clear hW3 hh K2 HC2 HN2
  have c0 : W3.cell? ⟨c, 0, none⟩ = some (.slice none 0 0) := cells_at hc3 0
  have c1 : W3.cell? ⟨c, 1, none⟩ = some (.int .i64 0) := cells_at hc3 1
  have HC3 := hidp hc3
  have HN3 := hidp hn3
  clear hc3 hn3
  have hsl : ∀ w', (Instr.slice 32 (.slice (some ⟨w.heap.size, 0, none⟩) K K) (some (.int .i64 0)) none none).run Try.prog w' = .ok (.slice (some ⟨w.heap.size, 0, none⟩) K K) w' := run_low Try.underlying32 infos9 w.heap.size 0 K K 0 (by omega) (by omega)
  have hsh := run_high_nil Try.underlying32 infos9
  go_still_tail 12, (by kernel_rfl)
  change wpList _ _ _ _ _ W3.drew
  have hcp := run_copy_nil (P := Try.prog) W3.drew 32 32 3 9 ⟨w.heap.size, 0, none⟩ K K Try.underlying32 infoss9
  have d0 : W3.drew.heap[c]? = _ := HC3.out
  have d1 : W3.drew.heap[w.heap.size]? = _ := HN3.out
  have K6 : Keeps (fun k => k = c) w W3.drew := (K3.mono (fun _ _ h => h.elim)).drew
  obtain ⟨W6, hW6⟩ : ∃ W6, W6 = W3.drew := ⟨_, rfl⟩
  rw [← hW6] at d0 d1 K6 hcp ⊢
  have e0 := cells_at d0 0
  have e1 := cells_at d0 1
  have f0 := free_at d0 0
  have f1 := free_at d0 1
  have hfin : Grown_s c n room 0 [] closed K w (.returned (.tuple #[])) ((W6.setCell ⟨c, 0, none⟩ (.slice (some ⟨w.heap.size, 0, none⟩) K K)).setCell ⟨c, 1, none⟩ (.int .i64 0)) :=
    ⟨rfl, by rw [setCell_block (setCell_block d0 0 _)]; simp, by rw [Below.heap_setCell _ _ _ _ (by simp; omega), Below.heap_setCell _ _ _ _ (by simp; omega)]; exact d1, (K6.setCell (.inl rfl) _).setCell (.inl rfl) _⟩
  have HF := hidp hfin
  clear hfin d0 d1 hW6 HC3 HN3 K6 HC c0 c1 hsl hsh hsn
  go_wp2
  go_end0
  exact HF.out

theorem info3 : (Try.prog.info? 3).map (fun i => (i.zero, i.size, i.bytes)) = some (some (.int .i64 0), 1, 8) := by kernel_rfl
theorem infos3 : (Try.prog.info? 3).map (·.size) = some 1 := by kernel_rfl
theorem infoss3 : ((Try.prog.info? 3).map (·.size)).isSome = true := by kernel_rfl

/-- what grow leaves. -/
def Grown_i (c n room at_ : Nat) (R : List Value) (closed : Bool) (K : Nat) (w : World) (e : Ending) (w' : World) : Prop :=
  e = .returned (.tuple #[]) ∧ w'.heap[c]? = some (.cells #[.slice (some ⟨w.heap.size, 0, none⟩) K K, .int .i64 0, .int .i64 n, .int .i64 room, .bool closed] 62 (0, 0)) ∧
    w'.heap[w.heap.size]? = some (.cells (spun R at_ ++ (zrow (.int .i64 0) K).drop R.length).toArray 3 (0, 0)) ∧ Keeps (fun k => k = c) w w'

theorem grow_i_a (w : World) (c g n room at_ : Nat) (R : List Value) (closed : Bool) (hc : w.heap[c]? = some (.cells #[.slice (some ⟨g, 0, none⟩) R.length R.length, .int .i64 at_, .int .i64 n, .int .i64 room, .bool closed] 62 (0, 0)))
    (hg : w.heap[g]? = some (.cells R.toArray 3 (0, 0))) (h1c : ∀ v ∈ R, v.oneCell' = true) (hat : at_ < R.length) (_hR : R.length < room) (h1 : room ≤ 65536) (hk1 : (2 : Int) * R.length < 4) (hk2 : (4 : Int) ≤ room) (K : Nat) (hK : 4 = (K : Int)) :
    Calls Try.prog 26 #[.pointer (some ⟨c, 0, none⟩)] w (Grown_i c n room at_ R closed K w) := by
  obtain ⟨i0, hi, hz0, hz1, hz2⟩ := info_parts info3
  have hw2 : IntKind.i64.wrap (2 * (R.length : Int)) = 2 * (R.length : Int) := IntWalk.i64_in _ (by omega)
  have c0 : w.cell? ⟨c, 0, none⟩ = some (.slice (some ⟨g, 0, none⟩) R.length R.length) := cells_at hc 0
  have c1 : w.cell? ⟨c, 1, none⟩ = some (.int .i64 at_) := cells_at hc 1
  have c3 : w.cell? ⟨c, 3, none⟩ = some (.int .i64 room) := cells_at hc 3
  have hcg : c ≠ g := by rintro rfl; rw [hc] at hg; simp at hg
  have hcs : c < w.heap.size := (Array.getElem?_eq_some_iff.1 hc).1
  have hgs : g < w.heap.size := (Array.getElem?_eq_some_iff.1 hg).1
  have hKR : R.length < K := by omega
  have hmk := run_make1 Try.underlying41 hi hz0 rfl hz1 hz2 (by omega) w.drew _ K hK (by omega)
  have HC := hidp hc
  have HG := hidp hg
  have HCG := hidp hcg
  have HK := hidp hK
  clear hc hg hcg hK
  go_enter Try.func26, Try.ntmps26
  go_wp2
  go_still_tail 12, (by kernel_rfl)
  change wpList _ _ _ _ _ w.drew
  go_wp2
  clear hw2 c0 c1 c3 hmk
  -- region 1
  obtain ⟨W2, hW2⟩ : ∃ W2, W2 = (w.alloc (.cells (zrow (.int .i64 0) K).toArray 3)).drew := ⟨_, rfl⟩
  rw [← hW2]
  have K2 : Keeps (fun _ => False) w W2 := hW2 ▸ ((Keeps.refl _ _).alloc _).drew
  have hn2 : W2.heap[w.heap.size]? = some (.cells (zrow (.int .i64 0) K).toArray 3 (0, 0)) := by rw [hW2]; exact heap_alloc_new w _
  have hc2 := (K2.block c hcs (by simp)).trans HC.out
  have hg2 := (K2.block g hgs (by simp)).trans HG.out
  clear hW2
  have c0 : W2.cell? ⟨c, 0, none⟩ = some (.slice (some ⟨g, 0, none⟩) R.length R.length) := cells_at hc2 0
  have c1 : W2.cell? ⟨c, 1, none⟩ = some (.int .i64 at_) := cells_at hc2 1
  have HC2 := hidp hc2
  have HG2 := hidp hg2
  have HN2 := hidp hn2
  clear hc2 hg2 hn2
  have hsl := run_low Try.underlying41 infos3 g 0 R.length R.length at_ (by omega) hat
  simp only [Nat.zero_add] at hsl
  go_still_tail 10, (by kernel_rfl)
  change wpList _ _ _ _ _ W2.drew
  clear hsl
  obtain ⟨W3, hW3⟩ : ∃ W3, W3 = W2.drew := ⟨_, rfl⟩
  rw [← hW3]
  have K3 : Keeps (fun _ => False) w W3 := hW3 ▸ K2.drew
  have hh : W3.heap = W2.heap := by rw [hW3]; rfl
  have hc3 := HC2.out
  have hg3 := HG2.out
  have hn3 := HN2.out
  rw [← hh] at hc3 hg3 hn3
  clear hW3 hh K2 HC2 HG2 HN2 c0 c1
  have hdl : (R.drop at_).length = R.length - at_ := by simp
  have hcp := run_copy_row (P := Try.prog) W3 41 41 3 3 w.heap.size 0 K K ⟨g, at_, none⟩ (R.length - at_) (R.length - at_) _ 3 (R.drop at_) Try.underlying41 infos3 hn3 (by rw [hdl]; exact (Nat.min_eq_left (by omega)).symm)
    (fun j v hj => by
      rw [show (⟨g, at_, none⟩ : Addr).add j = ⟨g, at_ + j, none⟩ by unfold Addr.add; split <;> simp_all, cells_at hg3]
      simpa using hj) (by rw [hdl]; simp [zrow_len]; omega) (fun v hv => h1c v (List.mem_of_mem_drop hv))
  rw [hdl] at hcp
  simp only [splice1] at hcp
  have HN3 := hidp hn3
  have HC3 := hidp hc3
  have HG3 := hidp hg3
  have HD := hidp hdl
  clear hn3 hc3 hg3 hdl
  go_wp2
  -- region 2
  obtain ⟨W4, hW4⟩ : ∃ W4, W4 = W3.setRow w.heap.size (R.drop at_ ++ (zrow (.int .i64 0) K).drop (R.length - at_)).toArray := ⟨_, rfl⟩
  rw [← hW4]
  have hc4 := (setRow_other W3 w.heap.size c (R.drop at_ ++ (zrow (.int .i64 0) K).drop (R.length - at_)).toArray (by omega)).trans HC3.out
  have hg4 := (setRow_other W3 w.heap.size g (R.drop at_ ++ (zrow (.int .i64 0) K).drop (R.length - at_)).toArray (by omega)).trans HG3.out
  have hn4 := setRow_at HN3.out (R.drop at_ ++ (zrow (.int .i64 0) K).drop (R.length - at_)).toArray
  rw [← hW4] at hc4 hg4 hn4
  have K4 : Keeps (fun _ => False) w W4 := hW4 ▸ keeps_setRow K3 (.inr (Nat.le_refl _)) _
  clear hcp hW4 K3 HN3 HC3 HG3
  have c0 : W4.cell? ⟨c, 0, none⟩ = some (.slice (some ⟨g, 0, none⟩) R.length R.length) := cells_at hc4 0
  have c1 : W4.cell? ⟨c, 1, none⟩ = some (.int .i64 at_) := cells_at hc4 1
  have hsl := run_low Try.underlying41 infos3 w.heap.size 0 K K (R.length - at_) (by omega) (by omega)
  have hsh := run_high Try.underlying41 infos3 g 0 R.length R.length at_ (by omega) (by omega)
  simp only [Nat.zero_add] at hsl
  have HN4 := hidp hn4
  have HC4 := hidp hc4
  have HG4 := hidp hg4
  clear hn4 hc4 hg4
  go_still_tail 12, (by kernel_rfl)
  change wpList _ _ _ _ _ W4.drew
  clear hsl hsh
  obtain ⟨W5, hW5⟩ : ∃ W5, W5 = W4.drew := ⟨_, rfl⟩
  rw [← hW5]
  have K5 : Keeps (fun _ => False) w W5 := hW5 ▸ K4.drew
  have hh : W5.heap = W4.heap := by rw [hW5]; rfl
  have hc5 := HC4.out
  have hg5 := HG4.out
  have hn5 := HN4.out
  rw [← hh] at hc5 hg5 hn5
  clear hW5 hh K4 HC4 HG4 HN4 c0 c1
  have htl : (R.take at_).length = at_ := by simp; omega
  have hcp := run_copy_row (P := Try.prog) W5 41 41 3 3 w.heap.size (R.length - at_) (K - (R.length - at_)) (K - (R.length - at_)) ⟨g, 0, none⟩ at_ R.length _ 3 (R.take at_) Try.underlying41 infos3 hn5 (by rw [htl]; exact (Nat.min_eq_left (by omega)).symm)
    (fun j v hj => by
      rw [show (⟨g, 0, none⟩ : Addr).add j = ⟨g, j, none⟩ by unfold Addr.add; split <;> simp_all, cells_at hg5]
      rw [List.getElem?_take] at hj
      split at hj
      · simpa using hj
      · simp at hj) (by rw [htl]; have := HD.out; simp [zrow_len]; omega) (fun v hv => h1c v (List.mem_of_mem_take hv))
  have hsp := splice2 (R := R) (Z := zrow (.int .i64 0) K) (at_ := at_) (by omega)
  simp only at hcp
  rw [hsp, htl] at hcp
  have HN5 := hidp hn5
  have HC5 := hidp hc5
  have HT := hidp htl
  clear hn5 hc5 hg5 htl hsp
  have d0 : (W5.setRow w.heap.size (spun R at_ ++ (zrow (.int .i64 0) K).drop R.length).toArray).heap[c]? = _ := (setRow_other W5 w.heap.size c _ (by omega)).trans HC5.out
  have d1 : (W5.setRow w.heap.size (spun R at_ ++ (zrow (.int .i64 0) K).drop R.length).toArray).heap[w.heap.size]? = _ := setRow_at HN5.out _
  have K6 : Keeps (fun k => k = c) w (W5.setRow w.heap.size (spun R at_ ++ (zrow (.int .i64 0) K).drop R.length).toArray) := keeps_setRow (K5.mono (fun _ _ h => h.elim)) (.inr (Nat.le_refl _)) _
  obtain ⟨W6, hW6⟩ : ∃ W6, W6 = W5.setRow w.heap.size (spun R at_ ++ (zrow (.int .i64 0) K).drop R.length).toArray := ⟨_, rfl⟩
  rw [← hW6] at d0 d1 K6 hcp
  have e0 := cells_at d0 0
  have e1 := cells_at d0 1
  have f0 := free_at d0 0
  have f1 := free_at d0 1
  have hfin : Grown_i c n room at_ R closed K w (.returned (.tuple #[])) ((W6.setCell ⟨c, 0, none⟩ (.slice (some ⟨w.heap.size, 0, none⟩) K K)).setCell ⟨c, 1, none⟩ (.int .i64 0)) :=
    ⟨rfl, by rw [setCell_block (setCell_block d0 0 _)]; simp, by rw [Below.heap_setCell _ _ _ _ (by simp; omega), Below.heap_setCell _ _ _ _ (by simp; omega)]; exact d1, (K6.setCell (.inl rfl) _).setCell (.inl rfl) _⟩
  have HF := hidp hfin
  clear hfin d0 d1 hW6 HN5 HC5 HT K5 K6 HD HC HG HCG
  go_wp2
  go_end0
  exact HF.out

theorem grow_i_b (w : World) (c g n room at_ : Nat) (R : List Value) (closed : Bool) (hc : w.heap[c]? = some (.cells #[.slice (some ⟨g, 0, none⟩) R.length R.length, .int .i64 at_, .int .i64 n, .int .i64 room, .bool closed] 62 (0, 0)))
    (hg : w.heap[g]? = some (.cells R.toArray 3 (0, 0))) (h1c : ∀ v ∈ R, v.oneCell' = true) (hat : at_ < R.length) (hR : R.length < room) (h1 : room ≤ 65536) (hk1 : (2 : Int) * R.length < 4) (hk2 : (room : Int) < 4) (K : Nat) (hK : (room : Int) = (K : Int)) :
    Calls Try.prog 26 #[.pointer (some ⟨c, 0, none⟩)] w (Grown_i c n room at_ R closed K w) := by
  obtain ⟨i0, hi, hz0, hz1, hz2⟩ := info_parts info3
  have hw2 : IntKind.i64.wrap (2 * (R.length : Int)) = 2 * (R.length : Int) := IntWalk.i64_in _ (by omega)
  have c0 : w.cell? ⟨c, 0, none⟩ = some (.slice (some ⟨g, 0, none⟩) R.length R.length) := cells_at hc 0
  have c1 : w.cell? ⟨c, 1, none⟩ = some (.int .i64 at_) := cells_at hc 1
  have c3 : w.cell? ⟨c, 3, none⟩ = some (.int .i64 room) := cells_at hc 3
  have hcg : c ≠ g := by rintro rfl; rw [hc] at hg; simp at hg
  have hcs : c < w.heap.size := (Array.getElem?_eq_some_iff.1 hc).1
  have hgs : g < w.heap.size := (Array.getElem?_eq_some_iff.1 hg).1
  have hKR : R.length < K := by omega
  have hmk := run_make1 Try.underlying41 hi hz0 rfl hz1 hz2 (by omega) w.drew _ K hK (by omega)
  have HC := hidp hc
  have HG := hidp hg
  have HCG := hidp hcg
  have HK := hidp hK
  clear hc hg hcg hK
  go_enter Try.func26, Try.ntmps26
  go_wp2
  go_still_tail 12, (by kernel_rfl)
  change wpList _ _ _ _ _ w.drew
  go_wp2
  clear hw2 c0 c1 c3 hmk
  -- region 1
  obtain ⟨W2, hW2⟩ : ∃ W2, W2 = (w.alloc (.cells (zrow (.int .i64 0) K).toArray 3)).drew := ⟨_, rfl⟩
  rw [← hW2]
  have K2 : Keeps (fun _ => False) w W2 := hW2 ▸ ((Keeps.refl _ _).alloc _).drew
  have hn2 : W2.heap[w.heap.size]? = some (.cells (zrow (.int .i64 0) K).toArray 3 (0, 0)) := by rw [hW2]; exact heap_alloc_new w _
  have hc2 := (K2.block c hcs (by simp)).trans HC.out
  have hg2 := (K2.block g hgs (by simp)).trans HG.out
  clear hW2
  have c0 : W2.cell? ⟨c, 0, none⟩ = some (.slice (some ⟨g, 0, none⟩) R.length R.length) := cells_at hc2 0
  have c1 : W2.cell? ⟨c, 1, none⟩ = some (.int .i64 at_) := cells_at hc2 1
  have HC2 := hidp hc2
  have HG2 := hidp hg2
  have HN2 := hidp hn2
  clear hc2 hg2 hn2
  have hsl := run_low Try.underlying41 infos3 g 0 R.length R.length at_ (by omega) hat
  simp only [Nat.zero_add] at hsl
  go_still_tail 10, (by kernel_rfl)
  change wpList _ _ _ _ _ W2.drew
  clear hsl
  obtain ⟨W3, hW3⟩ : ∃ W3, W3 = W2.drew := ⟨_, rfl⟩
  rw [← hW3]
  have K3 : Keeps (fun _ => False) w W3 := hW3 ▸ K2.drew
  have hh : W3.heap = W2.heap := by rw [hW3]; rfl
  have hc3 := HC2.out
  have hg3 := HG2.out
  have hn3 := HN2.out
  rw [← hh] at hc3 hg3 hn3
  clear hW3 hh K2 HC2 HG2 HN2 c0 c1
  have hdl : (R.drop at_).length = R.length - at_ := by simp
  have hcp := run_copy_row (P := Try.prog) W3 41 41 3 3 w.heap.size 0 K K ⟨g, at_, none⟩ (R.length - at_) (R.length - at_) _ 3 (R.drop at_) Try.underlying41 infos3 hn3 (by rw [hdl]; exact (Nat.min_eq_left (by omega)).symm)
    (fun j v hj => by
      rw [show (⟨g, at_, none⟩ : Addr).add j = ⟨g, at_ + j, none⟩ by unfold Addr.add; split <;> simp_all, cells_at hg3]
      simpa using hj) (by rw [hdl]; simp [zrow_len]; omega) (fun v hv => h1c v (List.mem_of_mem_drop hv))
  rw [hdl] at hcp
  simp only [splice1] at hcp
  have HN3 := hidp hn3
  have HC3 := hidp hc3
  have HG3 := hidp hg3
  have HD := hidp hdl
  clear hn3 hc3 hg3 hdl
  go_wp2
  -- region 2
  obtain ⟨W4, hW4⟩ : ∃ W4, W4 = W3.setRow w.heap.size (R.drop at_ ++ (zrow (.int .i64 0) K).drop (R.length - at_)).toArray := ⟨_, rfl⟩
  rw [← hW4]
  have hc4 := (setRow_other W3 w.heap.size c (R.drop at_ ++ (zrow (.int .i64 0) K).drop (R.length - at_)).toArray (by omega)).trans HC3.out
  have hg4 := (setRow_other W3 w.heap.size g (R.drop at_ ++ (zrow (.int .i64 0) K).drop (R.length - at_)).toArray (by omega)).trans HG3.out
  have hn4 := setRow_at HN3.out (R.drop at_ ++ (zrow (.int .i64 0) K).drop (R.length - at_)).toArray
  rw [← hW4] at hc4 hg4 hn4
  have K4 : Keeps (fun _ => False) w W4 := hW4 ▸ keeps_setRow K3 (.inr (Nat.le_refl _)) _
  clear hcp hW4 K3 HN3 HC3 HG3
  have c0 : W4.cell? ⟨c, 0, none⟩ = some (.slice (some ⟨g, 0, none⟩) R.length R.length) := cells_at hc4 0
  have c1 : W4.cell? ⟨c, 1, none⟩ = some (.int .i64 at_) := cells_at hc4 1
  have hsl := run_low Try.underlying41 infos3 w.heap.size 0 K K (R.length - at_) (by omega) (by omega)
  have hsh := run_high Try.underlying41 infos3 g 0 R.length R.length at_ (by omega) (by omega)
  simp only [Nat.zero_add] at hsl
  have HN4 := hidp hn4
  have HC4 := hidp hc4
  have HG4 := hidp hg4
  clear hn4 hc4 hg4
  go_still_tail 12, (by kernel_rfl)
  change wpList _ _ _ _ _ W4.drew
  clear hsl hsh
  obtain ⟨W5, hW5⟩ : ∃ W5, W5 = W4.drew := ⟨_, rfl⟩
  rw [← hW5]
  have K5 : Keeps (fun _ => False) w W5 := hW5 ▸ K4.drew
  have hh : W5.heap = W4.heap := by rw [hW5]; rfl
  have hc5 := HC4.out
  have hg5 := HG4.out
  have hn5 := HN4.out
  rw [← hh] at hc5 hg5 hn5
  clear hW5 hh K4 HC4 HG4 HN4 c0 c1
  have htl : (R.take at_).length = at_ := by simp; omega
  have hcp := run_copy_row (P := Try.prog) W5 41 41 3 3 w.heap.size (R.length - at_) (K - (R.length - at_)) (K - (R.length - at_)) ⟨g, 0, none⟩ at_ R.length _ 3 (R.take at_) Try.underlying41 infos3 hn5 (by rw [htl]; exact (Nat.min_eq_left (by omega)).symm)
    (fun j v hj => by
      rw [show (⟨g, 0, none⟩ : Addr).add j = ⟨g, j, none⟩ by unfold Addr.add; split <;> simp_all, cells_at hg5]
      rw [List.getElem?_take] at hj
      split at hj
      · simpa using hj
      · simp at hj) (by rw [htl]; have := HD.out; simp [zrow_len]; omega) (fun v hv => h1c v (List.mem_of_mem_take hv))
  have hsp := splice2 (R := R) (Z := zrow (.int .i64 0) K) (at_ := at_) (by omega)
  simp only at hcp
  rw [hsp, htl] at hcp
  have HN5 := hidp hn5
  have HC5 := hidp hc5
  have HT := hidp htl
  clear hn5 hc5 hg5 htl hsp
  have d0 : (W5.setRow w.heap.size (spun R at_ ++ (zrow (.int .i64 0) K).drop R.length).toArray).heap[c]? = _ := (setRow_other W5 w.heap.size c _ (by omega)).trans HC5.out
  have d1 : (W5.setRow w.heap.size (spun R at_ ++ (zrow (.int .i64 0) K).drop R.length).toArray).heap[w.heap.size]? = _ := setRow_at HN5.out _
  have K6 : Keeps (fun k => k = c) w (W5.setRow w.heap.size (spun R at_ ++ (zrow (.int .i64 0) K).drop R.length).toArray) := keeps_setRow (K5.mono (fun _ _ h => h.elim)) (.inr (Nat.le_refl _)) _
  obtain ⟨W6, hW6⟩ : ∃ W6, W6 = W5.setRow w.heap.size (spun R at_ ++ (zrow (.int .i64 0) K).drop R.length).toArray := ⟨_, rfl⟩
  rw [← hW6] at d0 d1 K6 hcp
  have e0 := cells_at d0 0
  have e1 := cells_at d0 1
  have f0 := free_at d0 0
  have f1 := free_at d0 1
  have hfin : Grown_i c n room at_ R closed K w (.returned (.tuple #[])) ((W6.setCell ⟨c, 0, none⟩ (.slice (some ⟨w.heap.size, 0, none⟩) K K)).setCell ⟨c, 1, none⟩ (.int .i64 0)) :=
    ⟨rfl, by rw [setCell_block (setCell_block d0 0 _)]; simp, by rw [Below.heap_setCell _ _ _ _ (by simp; omega), Below.heap_setCell _ _ _ _ (by simp; omega)]; exact d1, (K6.setCell (.inl rfl) _).setCell (.inl rfl) _⟩
  have HF := hidp hfin
  clear hfin d0 d1 hW6 HN5 HC5 HT K5 K6 HD HC HG HCG
  go_wp2
  go_end0
  exact HF.out

theorem grow_i_c (w : World) (c g n room at_ : Nat) (R : List Value) (closed : Bool) (hc : w.heap[c]? = some (.cells #[.slice (some ⟨g, 0, none⟩) R.length R.length, .int .i64 at_, .int .i64 n, .int .i64 room, .bool closed] 62 (0, 0)))
    (hg : w.heap[g]? = some (.cells R.toArray 3 (0, 0))) (h1c : ∀ v ∈ R, v.oneCell' = true) (hat : at_ < R.length) (_hR : R.length < room) (h1 : room ≤ 65536) (hk1 : 4 ≤ (2 : Int) * R.length) (hk2 : 2 * (R.length : Int) ≤ room) (K : Nat) (hK : 2 * (R.length : Int) = (K : Int)) :
    Calls Try.prog 26 #[.pointer (some ⟨c, 0, none⟩)] w (Grown_i c n room at_ R closed K w) := by
  obtain ⟨i0, hi, hz0, hz1, hz2⟩ := info_parts info3
  have hw2 : IntKind.i64.wrap (2 * (R.length : Int)) = 2 * (R.length : Int) := IntWalk.i64_in _ (by omega)
  have c0 : w.cell? ⟨c, 0, none⟩ = some (.slice (some ⟨g, 0, none⟩) R.length R.length) := cells_at hc 0
  have c1 : w.cell? ⟨c, 1, none⟩ = some (.int .i64 at_) := cells_at hc 1
  have c3 : w.cell? ⟨c, 3, none⟩ = some (.int .i64 room) := cells_at hc 3
  have hcg : c ≠ g := by rintro rfl; rw [hc] at hg; simp at hg
  have hcs : c < w.heap.size := (Array.getElem?_eq_some_iff.1 hc).1
  have hgs : g < w.heap.size := (Array.getElem?_eq_some_iff.1 hg).1
  have hKR : R.length < K := by omega
  have hmk := run_make1 Try.underlying41 hi hz0 rfl hz1 hz2 (by omega) w.drew _ K hK (by omega)
  have HC := hidp hc
  have HG := hidp hg
  have HCG := hidp hcg
  have HK := hidp hK
  clear hc hg hcg hK
  go_enter Try.func26, Try.ntmps26
  go_wp2
  go_still_tail 12, (by kernel_rfl)
  change wpList _ _ _ _ _ w.drew
  go_wp2
  clear hw2 c0 c1 c3 hmk
  -- region 1
  obtain ⟨W2, hW2⟩ : ∃ W2, W2 = (w.alloc (.cells (zrow (.int .i64 0) K).toArray 3)).drew := ⟨_, rfl⟩
  rw [← hW2]
  have K2 : Keeps (fun _ => False) w W2 := hW2 ▸ ((Keeps.refl _ _).alloc _).drew
  have hn2 : W2.heap[w.heap.size]? = some (.cells (zrow (.int .i64 0) K).toArray 3 (0, 0)) := by rw [hW2]; exact heap_alloc_new w _
  have hc2 := (K2.block c hcs (by simp)).trans HC.out
  have hg2 := (K2.block g hgs (by simp)).trans HG.out
  clear hW2
  have c0 : W2.cell? ⟨c, 0, none⟩ = some (.slice (some ⟨g, 0, none⟩) R.length R.length) := cells_at hc2 0
  have c1 : W2.cell? ⟨c, 1, none⟩ = some (.int .i64 at_) := cells_at hc2 1
  have HC2 := hidp hc2
  have HG2 := hidp hg2
  have HN2 := hidp hn2
  clear hc2 hg2 hn2
  have hsl := run_low Try.underlying41 infos3 g 0 R.length R.length at_ (by omega) hat
  simp only [Nat.zero_add] at hsl
  go_still_tail 10, (by kernel_rfl)
  change wpList _ _ _ _ _ W2.drew
  clear hsl
  obtain ⟨W3, hW3⟩ : ∃ W3, W3 = W2.drew := ⟨_, rfl⟩
  rw [← hW3]
  have K3 : Keeps (fun _ => False) w W3 := hW3 ▸ K2.drew
  have hh : W3.heap = W2.heap := by rw [hW3]; rfl
  have hc3 := HC2.out
  have hg3 := HG2.out
  have hn3 := HN2.out
  rw [← hh] at hc3 hg3 hn3
  clear hW3 hh K2 HC2 HG2 HN2 c0 c1
  have hdl : (R.drop at_).length = R.length - at_ := by simp
  have hcp := run_copy_row (P := Try.prog) W3 41 41 3 3 w.heap.size 0 K K ⟨g, at_, none⟩ (R.length - at_) (R.length - at_) _ 3 (R.drop at_) Try.underlying41 infos3 hn3 (by rw [hdl]; exact (Nat.min_eq_left (by omega)).symm)
    (fun j v hj => by
      rw [show (⟨g, at_, none⟩ : Addr).add j = ⟨g, at_ + j, none⟩ by unfold Addr.add; split <;> simp_all, cells_at hg3]
      simpa using hj) (by rw [hdl]; simp [zrow_len]; omega) (fun v hv => h1c v (List.mem_of_mem_drop hv))
  rw [hdl] at hcp
  simp only [splice1] at hcp
  have HN3 := hidp hn3
  have HC3 := hidp hc3
  have HG3 := hidp hg3
  have HD := hidp hdl
  clear hn3 hc3 hg3 hdl
  go_wp2
  -- region 2
  obtain ⟨W4, hW4⟩ : ∃ W4, W4 = W3.setRow w.heap.size (R.drop at_ ++ (zrow (.int .i64 0) K).drop (R.length - at_)).toArray := ⟨_, rfl⟩
  rw [← hW4]
  have hc4 := (setRow_other W3 w.heap.size c (R.drop at_ ++ (zrow (.int .i64 0) K).drop (R.length - at_)).toArray (by omega)).trans HC3.out
  have hg4 := (setRow_other W3 w.heap.size g (R.drop at_ ++ (zrow (.int .i64 0) K).drop (R.length - at_)).toArray (by omega)).trans HG3.out
  have hn4 := setRow_at HN3.out (R.drop at_ ++ (zrow (.int .i64 0) K).drop (R.length - at_)).toArray
  rw [← hW4] at hc4 hg4 hn4
  have K4 : Keeps (fun _ => False) w W4 := hW4 ▸ keeps_setRow K3 (.inr (Nat.le_refl _)) _
  clear hcp hW4 K3 HN3 HC3 HG3
  have c0 : W4.cell? ⟨c, 0, none⟩ = some (.slice (some ⟨g, 0, none⟩) R.length R.length) := cells_at hc4 0
  have c1 : W4.cell? ⟨c, 1, none⟩ = some (.int .i64 at_) := cells_at hc4 1
  have hsl := run_low Try.underlying41 infos3 w.heap.size 0 K K (R.length - at_) (by omega) (by omega)
  have hsh := run_high Try.underlying41 infos3 g 0 R.length R.length at_ (by omega) (by omega)
  simp only [Nat.zero_add] at hsl
  have HN4 := hidp hn4
  have HC4 := hidp hc4
  have HG4 := hidp hg4
  clear hn4 hc4 hg4
  go_still_tail 12, (by kernel_rfl)
  change wpList _ _ _ _ _ W4.drew
  clear hsl hsh
  obtain ⟨W5, hW5⟩ : ∃ W5, W5 = W4.drew := ⟨_, rfl⟩
  rw [← hW5]
  have K5 : Keeps (fun _ => False) w W5 := hW5 ▸ K4.drew
  have hh : W5.heap = W4.heap := by rw [hW5]; rfl
  have hc5 := HC4.out
  have hg5 := HG4.out
  have hn5 := HN4.out
  rw [← hh] at hc5 hg5 hn5
  clear hW5 hh K4 HC4 HG4 HN4 c0 c1
  have htl : (R.take at_).length = at_ := by simp; omega
  have hcp := run_copy_row (P := Try.prog) W5 41 41 3 3 w.heap.size (R.length - at_) (K - (R.length - at_)) (K - (R.length - at_)) ⟨g, 0, none⟩ at_ R.length _ 3 (R.take at_) Try.underlying41 infos3 hn5 (by rw [htl]; exact (Nat.min_eq_left (by omega)).symm)
    (fun j v hj => by
      rw [show (⟨g, 0, none⟩ : Addr).add j = ⟨g, j, none⟩ by unfold Addr.add; split <;> simp_all, cells_at hg5]
      rw [List.getElem?_take] at hj
      split at hj
      · simpa using hj
      · simp at hj) (by rw [htl]; have := HD.out; simp [zrow_len]; omega) (fun v hv => h1c v (List.mem_of_mem_take hv))
  have hsp := splice2 (R := R) (Z := zrow (.int .i64 0) K) (at_ := at_) (by omega)
  simp only at hcp
  rw [hsp, htl] at hcp
  have HN5 := hidp hn5
  have HC5 := hidp hc5
  have HT := hidp htl
  clear hn5 hc5 hg5 htl hsp
  have d0 : (W5.setRow w.heap.size (spun R at_ ++ (zrow (.int .i64 0) K).drop R.length).toArray).heap[c]? = _ := (setRow_other W5 w.heap.size c _ (by omega)).trans HC5.out
  have d1 : (W5.setRow w.heap.size (spun R at_ ++ (zrow (.int .i64 0) K).drop R.length).toArray).heap[w.heap.size]? = _ := setRow_at HN5.out _
  have K6 : Keeps (fun k => k = c) w (W5.setRow w.heap.size (spun R at_ ++ (zrow (.int .i64 0) K).drop R.length).toArray) := keeps_setRow (K5.mono (fun _ _ h => h.elim)) (.inr (Nat.le_refl _)) _
  obtain ⟨W6, hW6⟩ : ∃ W6, W6 = W5.setRow w.heap.size (spun R at_ ++ (zrow (.int .i64 0) K).drop R.length).toArray := ⟨_, rfl⟩
  rw [← hW6] at d0 d1 K6 hcp
  have e0 := cells_at d0 0
  have e1 := cells_at d0 1
  have f0 := free_at d0 0
  have f1 := free_at d0 1
  have hfin : Grown_i c n room at_ R closed K w (.returned (.tuple #[])) ((W6.setCell ⟨c, 0, none⟩ (.slice (some ⟨w.heap.size, 0, none⟩) K K)).setCell ⟨c, 1, none⟩ (.int .i64 0)) :=
    ⟨rfl, by rw [setCell_block (setCell_block d0 0 _)]; simp, by rw [Below.heap_setCell _ _ _ _ (by simp; omega), Below.heap_setCell _ _ _ _ (by simp; omega)]; exact d1, (K6.setCell (.inl rfl) _).setCell (.inl rfl) _⟩
  have HF := hidp hfin
  clear hfin d0 d1 hW6 HN5 HC5 HT K5 K6 HD HC HG HCG
  go_wp2
  go_end0
  exact HF.out

theorem grow_i_d (w : World) (c g n room at_ : Nat) (R : List Value) (closed : Bool) (hc : w.heap[c]? = some (.cells #[.slice (some ⟨g, 0, none⟩) R.length R.length, .int .i64 at_, .int .i64 n, .int .i64 room, .bool closed] 62 (0, 0)))
    (hg : w.heap[g]? = some (.cells R.toArray 3 (0, 0))) (h1c : ∀ v ∈ R, v.oneCell' = true) (hat : at_ < R.length) (hR : R.length < room) (h1 : room ≤ 65536) (hk1 : 4 ≤ (2 : Int) * R.length) (hk2 : (room : Int) < 2 * (R.length : Int)) (K : Nat) (hK : (room : Int) = (K : Int)) :
    Calls Try.prog 26 #[.pointer (some ⟨c, 0, none⟩)] w (Grown_i c n room at_ R closed K w) := by
  obtain ⟨i0, hi, hz0, hz1, hz2⟩ := info_parts info3
  have hw2 : IntKind.i64.wrap (2 * (R.length : Int)) = 2 * (R.length : Int) := IntWalk.i64_in _ (by omega)
  have c0 : w.cell? ⟨c, 0, none⟩ = some (.slice (some ⟨g, 0, none⟩) R.length R.length) := cells_at hc 0
  have c1 : w.cell? ⟨c, 1, none⟩ = some (.int .i64 at_) := cells_at hc 1
  have c3 : w.cell? ⟨c, 3, none⟩ = some (.int .i64 room) := cells_at hc 3
  have hcg : c ≠ g := by rintro rfl; rw [hc] at hg; simp at hg
  have hcs : c < w.heap.size := (Array.getElem?_eq_some_iff.1 hc).1
  have hgs : g < w.heap.size := (Array.getElem?_eq_some_iff.1 hg).1
  have hKR : R.length < K := by omega
  have hmk := run_make1 Try.underlying41 hi hz0 rfl hz1 hz2 (by omega) w.drew _ K hK (by omega)
  have HC := hidp hc
  have HG := hidp hg
  have HCG := hidp hcg
  have HK := hidp hK
  clear hc hg hcg hK
  go_enter Try.func26, Try.ntmps26
  go_wp2
  go_still_tail 12, (by kernel_rfl)
  change wpList _ _ _ _ _ w.drew
  go_wp2
  clear hw2 c0 c1 c3 hmk
  -- region 1
  obtain ⟨W2, hW2⟩ : ∃ W2, W2 = (w.alloc (.cells (zrow (.int .i64 0) K).toArray 3)).drew := ⟨_, rfl⟩
  rw [← hW2]
  have K2 : Keeps (fun _ => False) w W2 := hW2 ▸ ((Keeps.refl _ _).alloc _).drew
  have hn2 : W2.heap[w.heap.size]? = some (.cells (zrow (.int .i64 0) K).toArray 3 (0, 0)) := by rw [hW2]; exact heap_alloc_new w _
  have hc2 := (K2.block c hcs (by simp)).trans HC.out
  have hg2 := (K2.block g hgs (by simp)).trans HG.out
  clear hW2
  have c0 : W2.cell? ⟨c, 0, none⟩ = some (.slice (some ⟨g, 0, none⟩) R.length R.length) := cells_at hc2 0
  have c1 : W2.cell? ⟨c, 1, none⟩ = some (.int .i64 at_) := cells_at hc2 1
  have HC2 := hidp hc2
  have HG2 := hidp hg2
  have HN2 := hidp hn2
  clear hc2 hg2 hn2
  have hsl := run_low Try.underlying41 infos3 g 0 R.length R.length at_ (by omega) hat
  simp only [Nat.zero_add] at hsl
  go_still_tail 10, (by kernel_rfl)
  change wpList _ _ _ _ _ W2.drew
  clear hsl
  obtain ⟨W3, hW3⟩ : ∃ W3, W3 = W2.drew := ⟨_, rfl⟩
  rw [← hW3]
  have K3 : Keeps (fun _ => False) w W3 := hW3 ▸ K2.drew
  have hh : W3.heap = W2.heap := by rw [hW3]; rfl
  have hc3 := HC2.out
  have hg3 := HG2.out
  have hn3 := HN2.out
  rw [← hh] at hc3 hg3 hn3
  clear hW3 hh K2 HC2 HG2 HN2 c0 c1
  have hdl : (R.drop at_).length = R.length - at_ := by simp
  have hcp := run_copy_row (P := Try.prog) W3 41 41 3 3 w.heap.size 0 K K ⟨g, at_, none⟩ (R.length - at_) (R.length - at_) _ 3 (R.drop at_) Try.underlying41 infos3 hn3 (by rw [hdl]; exact (Nat.min_eq_left (by omega)).symm)
    (fun j v hj => by
      rw [show (⟨g, at_, none⟩ : Addr).add j = ⟨g, at_ + j, none⟩ by unfold Addr.add; split <;> simp_all, cells_at hg3]
      simpa using hj) (by rw [hdl]; simp [zrow_len]; omega) (fun v hv => h1c v (List.mem_of_mem_drop hv))
  rw [hdl] at hcp
  simp only [splice1] at hcp
  have HN3 := hidp hn3
  have HC3 := hidp hc3
  have HG3 := hidp hg3
  have HD := hidp hdl
  clear hn3 hc3 hg3 hdl
  go_wp2
  -- region 2
  obtain ⟨W4, hW4⟩ : ∃ W4, W4 = W3.setRow w.heap.size (R.drop at_ ++ (zrow (.int .i64 0) K).drop (R.length - at_)).toArray := ⟨_, rfl⟩
  rw [← hW4]
  have hc4 := (setRow_other W3 w.heap.size c (R.drop at_ ++ (zrow (.int .i64 0) K).drop (R.length - at_)).toArray (by omega)).trans HC3.out
  have hg4 := (setRow_other W3 w.heap.size g (R.drop at_ ++ (zrow (.int .i64 0) K).drop (R.length - at_)).toArray (by omega)).trans HG3.out
  have hn4 := setRow_at HN3.out (R.drop at_ ++ (zrow (.int .i64 0) K).drop (R.length - at_)).toArray
  rw [← hW4] at hc4 hg4 hn4
  have K4 : Keeps (fun _ => False) w W4 := hW4 ▸ keeps_setRow K3 (.inr (Nat.le_refl _)) _
  clear hcp hW4 K3 HN3 HC3 HG3
  have c0 : W4.cell? ⟨c, 0, none⟩ = some (.slice (some ⟨g, 0, none⟩) R.length R.length) := cells_at hc4 0
  have c1 : W4.cell? ⟨c, 1, none⟩ = some (.int .i64 at_) := cells_at hc4 1
  have hsl := run_low Try.underlying41 infos3 w.heap.size 0 K K (R.length - at_) (by omega) (by omega)
  have hsh := run_high Try.underlying41 infos3 g 0 R.length R.length at_ (by omega) (by omega)
  simp only [Nat.zero_add] at hsl
  have HN4 := hidp hn4
  have HC4 := hidp hc4
  have HG4 := hidp hg4
  clear hn4 hc4 hg4
  go_still_tail 12, (by kernel_rfl)
  change wpList _ _ _ _ _ W4.drew
  clear hsl hsh
  obtain ⟨W5, hW5⟩ : ∃ W5, W5 = W4.drew := ⟨_, rfl⟩
  rw [← hW5]
  have K5 : Keeps (fun _ => False) w W5 := hW5 ▸ K4.drew
  have hh : W5.heap = W4.heap := by rw [hW5]; rfl
  have hc5 := HC4.out
  have hg5 := HG4.out
  have hn5 := HN4.out
  rw [← hh] at hc5 hg5 hn5
  clear hW5 hh K4 HC4 HG4 HN4 c0 c1
  have htl : (R.take at_).length = at_ := by simp; omega
  have hcp := run_copy_row (P := Try.prog) W5 41 41 3 3 w.heap.size (R.length - at_) (K - (R.length - at_)) (K - (R.length - at_)) ⟨g, 0, none⟩ at_ R.length _ 3 (R.take at_) Try.underlying41 infos3 hn5 (by rw [htl]; exact (Nat.min_eq_left (by omega)).symm)
    (fun j v hj => by
      rw [show (⟨g, 0, none⟩ : Addr).add j = ⟨g, j, none⟩ by unfold Addr.add; split <;> simp_all, cells_at hg5]
      rw [List.getElem?_take] at hj
      split at hj
      · simpa using hj
      · simp at hj) (by rw [htl]; have := HD.out; simp [zrow_len]; omega) (fun v hv => h1c v (List.mem_of_mem_take hv))
  have hsp := splice2 (R := R) (Z := zrow (.int .i64 0) K) (at_ := at_) (by omega)
  simp only at hcp
  rw [hsp, htl] at hcp
  have HN5 := hidp hn5
  have HC5 := hidp hc5
  have HT := hidp htl
  clear hn5 hc5 hg5 htl hsp
  have d0 : (W5.setRow w.heap.size (spun R at_ ++ (zrow (.int .i64 0) K).drop R.length).toArray).heap[c]? = _ := (setRow_other W5 w.heap.size c _ (by omega)).trans HC5.out
  have d1 : (W5.setRow w.heap.size (spun R at_ ++ (zrow (.int .i64 0) K).drop R.length).toArray).heap[w.heap.size]? = _ := setRow_at HN5.out _
  have K6 : Keeps (fun k => k = c) w (W5.setRow w.heap.size (spun R at_ ++ (zrow (.int .i64 0) K).drop R.length).toArray) := keeps_setRow (K5.mono (fun _ _ h => h.elim)) (.inr (Nat.le_refl _)) _
  obtain ⟨W6, hW6⟩ : ∃ W6, W6 = W5.setRow w.heap.size (spun R at_ ++ (zrow (.int .i64 0) K).drop R.length).toArray := ⟨_, rfl⟩
  rw [← hW6] at d0 d1 K6 hcp
  have e0 := cells_at d0 0
  have e1 := cells_at d0 1
  have f0 := free_at d0 0
  have f1 := free_at d0 1
  have hfin : Grown_i c n room at_ R closed K w (.returned (.tuple #[])) ((W6.setCell ⟨c, 0, none⟩ (.slice (some ⟨w.heap.size, 0, none⟩) K K)).setCell ⟨c, 1, none⟩ (.int .i64 0)) :=
    ⟨rfl, by rw [setCell_block (setCell_block d0 0 _)]; simp, by rw [Below.heap_setCell _ _ _ _ (by simp; omega), Below.heap_setCell _ _ _ _ (by simp; omega)]; exact d1, (K6.setCell (.inl rfl) _).setCell (.inl rfl) _⟩
  have HF := hidp hfin
  clear hfin d0 d1 hW6 HN5 HC5 HT K5 K6 HD HC HG HCG
  go_wp2
  go_end0
  exact HF.out

theorem grow0_i_a (w : World) (c n room : Nat) (closed : Bool) (hc : w.heap[c]? = some (.cells #[.slice none 0 0, .int .i64 0, .int .i64 n, .int .i64 room, .bool closed] 62 (0, 0)))
    (_h0 : 1 ≤ room) (hk2 : (4 : Int) ≤ room) (K : Nat) (hK : 4 = (K : Int)) :
    Calls Try.prog 26 #[.pointer (some ⟨c, 0, none⟩)] w (Grown_i c n room 0 [] closed K w) := by
  obtain ⟨i0, hi, hz0, hz1, hz2⟩ := info_parts info3
  have c0 : w.cell? ⟨c, 0, none⟩ = some (.slice none 0 0) := cells_at hc 0
  have c1 : w.cell? ⟨c, 1, none⟩ = some (.int .i64 0) := cells_at hc 1
  have c3 : w.cell? ⟨c, 3, none⟩ = some (.int .i64 room) := cells_at hc 3
  have hcs : c < w.heap.size := (Array.getElem?_eq_some_iff.1 hc).1
  have hK0 : 0 < K := by omega
  have hw2 : IntKind.i64.wrap 0 = 0 := rfl
  have hmk := run_make1 Try.underlying41 hi hz0 rfl hz1 hz2 (by omega) w.drew _ K hK (by omega)
  have HC := hidp hc
  have HK := hidp hK
  clear hc hK
  go_enter Try.func26, Try.ntmps26
  go_wp2
  go_still_tail 12, (by kernel_rfl)
  change wpList _ _ _ _ _ w.drew
  go_wp2
  clear c0 c1 c3 hmk hw2
  -- region 1
  obtain ⟨W2, hW2⟩ : ∃ W2, W2 = (w.alloc (.cells (zrow (.int .i64 0) K).toArray 3)).drew := ⟨_, rfl⟩
  rw [← hW2]
  have K2 : Keeps (fun _ => False) w W2 := hW2 ▸ ((Keeps.refl _ _).alloc _).drew
  have hn2 : W2.heap[w.heap.size]? = some (.cells (zrow (.int .i64 0) K).toArray 3 (0, 0)) := by rw [hW2]; exact heap_alloc_new w _
  have hc2 := (K2.block c hcs (by simp)).trans HC.out
  clear hW2
  have c0 : W2.cell? ⟨c, 0, none⟩ = some (.slice none 0 0) := cells_at hc2 0
  have c1 : W2.cell? ⟨c, 1, none⟩ = some (.int .i64 0) := cells_at hc2 1
  have HC2 := hidp hc2
  have HN2 := hidp hn2
  clear hc2 hn2
  have hsn := run_low_nil Try.underlying41 infos3
  go_still_tail 10, (by kernel_rfl)
  change wpList _ _ _ _ _ W2.drew
  have hcp := run_copy_nil (P := Try.prog) W2.drew 41 41 3 3 ⟨w.heap.size, 0, none⟩ K K Try.underlying41 infoss3
  go_wp2
  clear hcp c0 c1
  -- region 2
  obtain ⟨W3, hW3⟩ : ∃ W3, W3 = W2.drew := ⟨_, rfl⟩
  rw [← hW3]
  have K3 : Keeps (fun _ => False) w W3 := hW3 ▸ K2.drew
  have hh : W3.heap = W2.heap := by rw [hW3]; rfl
  have hc3 := HC2.out
  have hn3 := HN2.out
  rw [← hh] at hc3 hn3
  clear hW3 hh K2 HC2 HN2
  have c0 : W3.cell? ⟨c, 0, none⟩ = some (.slice none 0 0) := cells_at hc3 0
  have c1 : W3.cell? ⟨c, 1, none⟩ = some (.int .i64 0) := cells_at hc3 1
  have HC3 := hidp hc3
  have HN3 := hidp hn3
  clear hc3 hn3
  have hsl : ∀ w', (Instr.slice 41 (.slice (some ⟨w.heap.size, 0, none⟩) K K) (some (.int .i64 0)) none none).run Try.prog w' = .ok (.slice (some ⟨w.heap.size, 0, none⟩) K K) w' := run_low Try.underlying41 infos3 w.heap.size 0 K K 0 (by omega) (by omega)
  have hsh := run_high_nil Try.underlying41 infos3
  go_still_tail 12, (by kernel_rfl)
  change wpList _ _ _ _ _ W3.drew
  have hcp := run_copy_nil (P := Try.prog) W3.drew 41 41 3 3 ⟨w.heap.size, 0, none⟩ K K Try.underlying41 infoss3
  have d0 : W3.drew.heap[c]? = _ := HC3.out
  have d1 : W3.drew.heap[w.heap.size]? = _ := HN3.out
  have K6 : Keeps (fun k => k = c) w W3.drew := (K3.mono (fun _ _ h => h.elim)).drew
  obtain ⟨W6, hW6⟩ : ∃ W6, W6 = W3.drew := ⟨_, rfl⟩
  rw [← hW6] at d0 d1 K6 hcp ⊢
  have e0 := cells_at d0 0
  have e1 := cells_at d0 1
  have f0 := free_at d0 0
  have f1 := free_at d0 1
  have hfin : Grown_i c n room 0 [] closed K w (.returned (.tuple #[])) ((W6.setCell ⟨c, 0, none⟩ (.slice (some ⟨w.heap.size, 0, none⟩) K K)).setCell ⟨c, 1, none⟩ (.int .i64 0)) :=
    ⟨rfl, by rw [setCell_block (setCell_block d0 0 _)]; simp, by rw [Below.heap_setCell _ _ _ _ (by simp; omega), Below.heap_setCell _ _ _ _ (by simp; omega)]; exact d1, (K6.setCell (.inl rfl) _).setCell (.inl rfl) _⟩
  have HF := hidp hfin
  clear hfin d0 d1 hW6 HC3 HN3 K6 HC c0 c1 hsl hsh hsn
  go_wp2
  go_end0
  exact HF.out

theorem grow0_i_b (w : World) (c n room : Nat) (closed : Bool) (hc : w.heap[c]? = some (.cells #[.slice none 0 0, .int .i64 0, .int .i64 n, .int .i64 room, .bool closed] 62 (0, 0)))
    (h0 : 1 ≤ room) (hk2 : (room : Int) < 4) (K : Nat) (hK : (room : Int) = (K : Int)) :
    Calls Try.prog 26 #[.pointer (some ⟨c, 0, none⟩)] w (Grown_i c n room 0 [] closed K w) := by
  obtain ⟨i0, hi, hz0, hz1, hz2⟩ := info_parts info3
  have c0 : w.cell? ⟨c, 0, none⟩ = some (.slice none 0 0) := cells_at hc 0
  have c1 : w.cell? ⟨c, 1, none⟩ = some (.int .i64 0) := cells_at hc 1
  have c3 : w.cell? ⟨c, 3, none⟩ = some (.int .i64 room) := cells_at hc 3
  have hcs : c < w.heap.size := (Array.getElem?_eq_some_iff.1 hc).1
  have hK0 : 0 < K := by omega
  have hw2 : IntKind.i64.wrap 0 = 0 := rfl
  have hmk := run_make1 Try.underlying41 hi hz0 rfl hz1 hz2 (by omega) w.drew _ K hK (by omega)
  have HC := hidp hc
  have HK := hidp hK
  clear hc hK
  go_enter Try.func26, Try.ntmps26
  go_wp2
  go_still_tail 12, (by kernel_rfl)
  change wpList _ _ _ _ _ w.drew
  go_wp2
  clear c0 c1 c3 hmk hw2
  -- region 1
  obtain ⟨W2, hW2⟩ : ∃ W2, W2 = (w.alloc (.cells (zrow (.int .i64 0) K).toArray 3)).drew := ⟨_, rfl⟩
  rw [← hW2]
  have K2 : Keeps (fun _ => False) w W2 := hW2 ▸ ((Keeps.refl _ _).alloc _).drew
  have hn2 : W2.heap[w.heap.size]? = some (.cells (zrow (.int .i64 0) K).toArray 3 (0, 0)) := by rw [hW2]; exact heap_alloc_new w _
  have hc2 := (K2.block c hcs (by simp)).trans HC.out
  clear hW2
  have c0 : W2.cell? ⟨c, 0, none⟩ = some (.slice none 0 0) := cells_at hc2 0
  have c1 : W2.cell? ⟨c, 1, none⟩ = some (.int .i64 0) := cells_at hc2 1
  have HC2 := hidp hc2
  have HN2 := hidp hn2
  clear hc2 hn2
  have hsn := run_low_nil Try.underlying41 infos3
  go_still_tail 10, (by kernel_rfl)
  change wpList _ _ _ _ _ W2.drew
  have hcp := run_copy_nil (P := Try.prog) W2.drew 41 41 3 3 ⟨w.heap.size, 0, none⟩ K K Try.underlying41 infoss3
  go_wp2
  clear hcp c0 c1
  -- region 2
  obtain ⟨W3, hW3⟩ : ∃ W3, W3 = W2.drew := ⟨_, rfl⟩
  rw [← hW3]
  have K3 : Keeps (fun _ => False) w W3 := hW3 ▸ K2.drew
  have hh : W3.heap = W2.heap := by rw [hW3]; rfl
  have hc3 := HC2.out
  have hn3 := HN2.out
  rw [← hh] at hc3 hn3
  clear hW3 hh K2 HC2 HN2
  have c0 : W3.cell? ⟨c, 0, none⟩ = some (.slice none 0 0) := cells_at hc3 0
  have c1 : W3.cell? ⟨c, 1, none⟩ = some (.int .i64 0) := cells_at hc3 1
  have HC3 := hidp hc3
  have HN3 := hidp hn3
  clear hc3 hn3
  have hsl : ∀ w', (Instr.slice 41 (.slice (some ⟨w.heap.size, 0, none⟩) K K) (some (.int .i64 0)) none none).run Try.prog w' = .ok (.slice (some ⟨w.heap.size, 0, none⟩) K K) w' := run_low Try.underlying41 infos3 w.heap.size 0 K K 0 (by omega) (by omega)
  have hsh := run_high_nil Try.underlying41 infos3
  go_still_tail 12, (by kernel_rfl)
  change wpList _ _ _ _ _ W3.drew
  have hcp := run_copy_nil (P := Try.prog) W3.drew 41 41 3 3 ⟨w.heap.size, 0, none⟩ K K Try.underlying41 infoss3
  have d0 : W3.drew.heap[c]? = _ := HC3.out
  have d1 : W3.drew.heap[w.heap.size]? = _ := HN3.out
  have K6 : Keeps (fun k => k = c) w W3.drew := (K3.mono (fun _ _ h => h.elim)).drew
  obtain ⟨W6, hW6⟩ : ∃ W6, W6 = W3.drew := ⟨_, rfl⟩
  rw [← hW6] at d0 d1 K6 hcp ⊢
  have e0 := cells_at d0 0
  have e1 := cells_at d0 1
  have f0 := free_at d0 0
  have f1 := free_at d0 1
  have hfin : Grown_i c n room 0 [] closed K w (.returned (.tuple #[])) ((W6.setCell ⟨c, 0, none⟩ (.slice (some ⟨w.heap.size, 0, none⟩) K K)).setCell ⟨c, 1, none⟩ (.int .i64 0)) :=
    ⟨rfl, by rw [setCell_block (setCell_block d0 0 _)]; simp, by rw [Below.heap_setCell _ _ _ _ (by simp; omega), Below.heap_setCell _ _ _ _ (by simp; omega)]; exact d1, (K6.setCell (.inl rfl) _).setCell (.inl rfl) _⟩
  have HF := hidp hfin
  clear hfin d0 d1 hW6 HC3 HN3 K6 HC c0 c1 hsl hsh hsn
  go_wp2
  go_end0
  exact HF.out
end Go.Proofs.Ytmnciedkkceiaaa
