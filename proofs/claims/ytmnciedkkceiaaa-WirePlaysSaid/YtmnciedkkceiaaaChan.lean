/- The methods of the played channels, at strings and at ints. -/
import Derived.Test.YtmnciedkkceiaaaGrow
import Derived.Test.YtmnciedkkceiaaaRing
import Derived.Deep.QuietTactic
import Derived.BigQuiet
namespace Go.Proofs.Ytmnciedkkceiaaa
open Go.RowKit Go.Pairs

/-- the ring's slice. -/
def ringv : Option Nat → Nat → Value
  | none, _ => .slice none 0 0
  | some g, n => .slice (some ⟨g, 0, none⟩) n n

theorem keeps_drewN {S : Nat → Prop} {a w : World} (h : Keeps S a w) (n : Nat) : Keeps S a (w.drewN n) := ⟨h.os, h.tape, h.output, h.size, h.block⟩

theorem tmod_nat {x : Int} {a n p : Nat} (hx : x = a) (hp : p = a % n) : x.tmod n = p := by
  subst hx hp
  rw [Int.tmod_eq_emod_of_nonneg (by omega)]; omega

def el_s (v : Value) : Prop := ∃ s, v = Value.string s

theorem el_s.one {v : Value} (h : el_s v) : v.oneCell' = true := by obtain ⟨_, rfl⟩ := h; rfl

/-- block c is a channel that holds L in the ring R (block g), from place a on. -/
structure Ch_s (w : World) (c : Nat) (g : Option Nat) (R : List Value) (a room : Nat) (closed : Bool) (L : List Value) : Prop where
  cell : w.heap[c]? = some (.cells #[ringv g R.length, .int .i64 a, .int .i64 L.length, .int .i64 room, .bool closed] 64 (0, 0))
  ring : (g = none ∧ R = [] ∧ a = 0) ∨ ∃ k, g = some k ∧ w.heap[k]? = some (.cells R.toArray 9 (0, 0)) ∧ a < R.length
  els : ∀ v ∈ R, el_s v
  cont : Cont R a L
  rlen : R.length ≤ room
  room1 : 1 ≤ room
  room2 : room ≤ 65536

theorem Ch_s.keep {w w' : World} {c : Nat} {g : Option Nat} {R : List Value} {a room : Nat} {closed : Bool} {L : List Value} (h : Ch_s w c g R a room closed L) {S : Nat → Prop} (hk : Keeps S w w') (hc : ¬ S c) (hg : ∀ k, g = some k → ¬ S k) : Ch_s w' c g R a room closed L := by
  refine ⟨(hk.block c (Array.getElem?_eq_some_iff.1 h.cell).1 hc).trans h.cell, ?_, h.els, h.cont, h.rlen, h.room1, h.room2⟩
  rcases h.ring with hr | ⟨k, hk1, hk2, hk3⟩
  · exact .inl hr
  · exact .inr ⟨k, hk1, (hk.block k (Array.getElem?_eq_some_iff.1 hk2).1 (hg k hk1)).trans hk2, hk3⟩

/-- what an operation on the channel leaves. -/
def Did_s (w : World) (c : Nat) (g : Option Nat) (room : Nat) (closed : Bool) (L : List Value) (w' : World) : Prop :=
  ∃ g' R' a', Ch_s w' c g' R' a' room closed L ∧ (g' = g ∨ ∃ k, g' = some k ∧ w.heap.size ≤ k) ∧ Keeps (fun k => k = c ∨ some k = g) w w'

theorem newok_s (w : World) (room : Int) (h1 : 1 ≤ room) (h2 : room ≤ 65536) :
    Calls Try.prog 11 #[.int .i64 room] w fun e w' => e = .returned (.tuple #[.pointer (some ⟨w.heap.size, 0, none⟩), .int .i64 0]) ∧ Ch_s w' w.heap.size none [] 0 room.toNat false [] ∧ Keeps (fun _ => False) w w' ∧ w'.heap.size = w.heap.size + 1 := by
  obtain ⟨r, rfl⟩ := Int.eq_ofNat_of_zero_le (show 0 ≤ room by omega)
  have hfin : Ch_s (w.alloc (.cells #[.slice none 0 0, .int .i64 0, .int .i64 0, .int .i64 r, .bool false] 64)) w.heap.size none [] 0 r false [] :=
    ⟨heap_alloc_new w _, .inl ⟨rfl, rfl, rfl⟩, by simp, cont_nil _ _, by simp, by omega, by omega⟩
  have HF := hidp hfin
  clear hfin
  go_enter Try.func11, Try.ntmps11
  go_wp2
  go_ret2
  exact ⟨rfl, by simpa using HF.out, (Keeps.refl _ _).alloc _, by simp⟩

theorem newno_s (w : World) (room : Int) (h : room < 1 ∨ 65536 < room) :
    Calls Try.prog 11 #[.int .i64 room] w fun e w' => e = .returned (.tuple #[.pointer none, .int .i64 1]) ∧ w = w' := by
  rcases (show room < 1 ∨ (1 ≤ room ∧ 65536 < room) by omega) with h | ⟨h, h'⟩
  all_goals
    go_enter Try.func11, Try.ntmps11
    go_wp2
    go_ret2
    exact ⟨rfl, rfl⟩

theorem len_s {w : World} {c : Nat} {g : Option Nat} {R : List Value} {a room : Nat} {closed : Bool} {L : List Value} (h : Ch_s w c g R a room closed L) :
    Calls Try.prog 14 #[.pointer (some ⟨c, 0, none⟩)] w fun e w' => e = .returned (.int .i64 L.length) ∧ w = w' := by
  have c2 : w.cell? ⟨c, 2, none⟩ = some (.int .i64 L.length) := cells_at h.cell 2
  go_enter Try.func14, Try.ntmps14
  go_wp2
  go_ret
  exact ⟨rfl, rfl⟩

theorem room_s {w : World} {c : Nat} {g : Option Nat} {R : List Value} {a room : Nat} {closed : Bool} {L : List Value} (h : Ch_s w c g R a room closed L) :
    Calls Try.prog 13 #[.pointer (some ⟨c, 0, none⟩)] w fun e w' => e = .returned (.int .i64 ((room : Int) - L.length)) ∧ ∃ n, w' = w.drewN n := by
  have c2 : w.cell? ⟨c, 2, none⟩ = some (.int .i64 L.length) := cells_at h.cell 2
  have c3 : w.cell? ⟨c, 3, none⟩ = some (.int .i64 room) := cells_at h.cell 3
  have h1 := h.cont.1
  have h2 := h.rlen
  have h3 := h.room2
  have hw : IntKind.i64.wrap ((room : Int) - L.length) = (room : Int) - L.length := IntWalk.i64_in _ (by omega)
  go_enter Try.func13, Try.ntmps13
  go_wp2
  go_quiet (fail)
  go_wp2
  go_ret
  exact ⟨rfl, _, rfl⟩

theorem close_yes_s {w : World} {c : Nat} {g : Option Nat} {R : List Value} {a room : Nat} {L : List Value} (h : Ch_s w c g R a room true L) :
    Calls Try.prog 16 #[.pointer (some ⟨c, 0, none⟩)] w fun e w' => e = .returned (.int .i64 102) ∧ w = w' := by
  have c4 : w.cell? ⟨c, 4, none⟩ = some (.bool true) := cells_at h.cell 4
  go_enter Try.func16, Try.ntmps16
  go_wp2
  go_ret
  exact ⟨rfl, rfl⟩

theorem close_no_s {w : World} {c : Nat} {g : Option Nat} {R : List Value} {a room : Nat} {L : List Value} (h : Ch_s w c g R a room false L) :
    Calls Try.prog 16 #[.pointer (some ⟨c, 0, none⟩)] w fun e w' => e = .returned (.int .i64 0) ∧ Did_s w c g room true L w' := by
  have c4 : w.cell? ⟨c, 4, none⟩ = some (.bool false) := cells_at h.cell 4
  have f4 := free_at h.cell 4
  have hfin : Did_s w c g room true L (w.setCell ⟨c, 4, none⟩ (.bool true)) := by
    refine ⟨g, R, a, ⟨by rw [setCell_block h.cell]; simp, ?_, h.els, h.cont, h.rlen, h.room1, h.room2⟩, .inl rfl, (Keeps.refl _ _).setCell (.inl (.inl rfl)) _⟩
    rcases h.ring with hr | ⟨k, hk1, hk2, hk3⟩
    · exact .inl hr
    · refine .inr ⟨k, hk1, ?_, hk3⟩
      rw [Below.heap_setCell _ _ _ _ (by rintro rfl; have := h.cell; rw [hk2] at this; simp at this)]
      exact hk2
  have HF := hidp hfin
  clear hfin
  go_enter Try.func16, Try.ntmps16
  go_wp2
  go_ret
  exact ⟨rfl, HF.out⟩

theorem send_closed_s {w : World} {c : Nat} {g : Option Nat} {R : List Value} {a room : Nat} {L : List Value} (h : Ch_s w c g R a room true L) (x : ByteArray) :
    Calls Try.prog 12 #[.pointer (some ⟨c, 0, none⟩), .string x] w fun e w' => e = .returned (.int .i64 102) ∧ w = w' := by
  have c4 : w.cell? ⟨c, 4, none⟩ = some (.bool true) := cells_at h.cell 4
  go_enter Try.func12, Try.ntmps12
  go_wp2
  go_ret
  exact ⟨rfl, rfl⟩

theorem send_full_s {w : World} {c : Nat} {g : Option Nat} {R : List Value} {a room : Nat} {L : List Value} (h : Ch_s w c g R a room false L) (hf : L.length = room) (x : ByteArray) :
    Calls Try.prog 12 #[.pointer (some ⟨c, 0, none⟩), .string x] w fun e w' => e = .returned (.int .i64 100) ∧ ∃ n, w' = w.drewN n := by
  have c4 : w.cell? ⟨c, 4, none⟩ = some (.bool false) := cells_at h.cell 4
  have c2 : w.cell? ⟨c, 2, none⟩ = some (.int .i64 L.length) := cells_at h.cell 2
  have c3 : w.cell? ⟨c, 3, none⟩ = some (.int .i64 room) := cells_at h.cell 3
  subst hf
  go_enter Try.func12, Try.ntmps12
  go_wp2
  go_quiet (fail)
  go_wp2
  go_ret
  exact ⟨rfl, _, rfl⟩

theorem send_fit_s {w : World} {c : Nat} {g : Option Nat} {R : List Value} {a room : Nat} {L : List Value} (h : Ch_s w c g R a room false L) (hf : L.length < R.length) (x : ByteArray) :
    Calls Try.prog 12 #[.pointer (some ⟨c, 0, none⟩), .string x] w fun e w' => e = .returned (.int .i64 0) ∧ Did_s w c g room false (L ++ [.string x]) w' := by
  have c4 : w.cell? ⟨c, 4, none⟩ = some (.bool false) := cells_at h.cell 4
  have c2 : w.cell? ⟨c, 2, none⟩ = some (.int .i64 L.length) := cells_at h.cell 2
  have c3 : w.cell? ⟨c, 3, none⟩ = some (.int .i64 room) := cells_at h.cell 3
  have c1 : w.cell? ⟨c, 1, none⟩ = some (.int .i64 a) := cells_at h.cell 1
  obtain ⟨k, rfl, hk, ha⟩ : ∃ k, g = some k ∧ w.heap[k]? = some (.cells R.toArray 9 (0, 0)) ∧ a < R.length := by
    rcases h.ring with ⟨-, rfl, -⟩ | h
    · simp at hf
    · exact h
  have c0 : w.cell? ⟨c, 0, none⟩ = some (.slice (some ⟨k, 0, none⟩) R.length R.length) := cells_at h.cell 0
  have hr := h.rlen
  have hr2 := h.room2
  have n1 : ((L.length : Int) == (room : Int)) = false := by simp; omega
  have n2 : ((L.length : Int) == (R.length : Int)) = false := by simp; omega
  have H := hidp h
  have HK := hidp hk
  clear h hk
  go_enter Try.func12, Try.ntmps12
  go_wp2
  go_quiet (fail)
  go_wp2
  obtain ⟨W1, hW1⟩ : ∃ W1, W1 = w.drewN nq := ⟨_, rfl⟩
  rw [← hW1]
  have K1 : Keeps (fun _ => False) w W1 := hW1 ▸ keeps_drewN (Keeps.refl _ _) _
  clear hW1 c0 c1 c2 c3 c4
  have h1 := H.out.keep K1 (by simp) (by simp)
  have c4 : W1.cell? ⟨c, 4, none⟩ = some (.bool false) := cells_at h1.cell 4
  have c2 : W1.cell? ⟨c, 2, none⟩ = some (.int .i64 L.length) := cells_at h1.cell 2
  have c3 : W1.cell? ⟨c, 3, none⟩ = some (.int .i64 room) := cells_at h1.cell 3
  have c1 : W1.cell? ⟨c, 1, none⟩ = some (.int .i64 a) := cells_at h1.cell 1
  have c0 : W1.cell? ⟨c, 0, none⟩ = some (.slice (some ⟨k, 0, none⟩) R.length R.length) := cells_at h1.cell 0
  clear h1
  go_quiet (fail)
  go_wp2
  obtain ⟨W2, hW2⟩ : ∃ W2, W2 = W1.drewN nq := ⟨_, rfl⟩
  rw [← hW2]
  have K2 : Keeps (fun _ => False) w W2 := hW2 ▸ keeps_drewN K1 _
  clear hW2 K1 c0 c1 c2 c3 c4 n1 n2
  have h1 := H.out.keep K2 (by simp) (by simp)
  have H2 := h1
  have c4 : W2.cell? ⟨c, 4, none⟩ = some (.bool false) := cells_at h1.cell 4
  have c2 : W2.cell? ⟨c, 2, none⟩ = some (.int .i64 L.length) := cells_at h1.cell 2
  have c1 : W2.cell? ⟨c, 1, none⟩ = some (.int .i64 a) := cells_at h1.cell 1
  have c0 : W2.cell? ⟨c, 0, none⟩ = some (.slice (some ⟨k, 0, none⟩) R.length R.length) := cells_at h1.cell 0
  clear h1
  have hw : IntKind.i64.wrap ((a : Int) + L.length) = ((a : Int) + L.length) := IntWalk.i64_in _ (by omega)
  obtain ⟨p, hp⟩ : ∃ p, p = (a + L.length) % R.length := ⟨_, rfl⟩
  have hpl : p < R.length := hp ▸ Nat.mod_lt _ (by omega)
  have hrem : (((a : Int) + L.length)).tmod R.length = p := tmod_nat (a := a + L.length) (by omega) hp
  have hR0 : ¬ R = [] := by intro e; rw [e] at hpl; simp at hpl
  have HP := hidp hp
  clear hp
  go_still_tail 20, (by kernel_rfl)
  change wpList _ _ _ _ _ W2.drew
  obtain ⟨W9, hW9⟩ : ∃ W9, W9 = W2.drew := ⟨_, rfl⟩
  rw [← hW9]
  have h9 := H2.keep (hW9 ▸ (Keeps.refl (fun _ => False) W2).drew) (by simp) (by simp)
  have K9 : Keeps (fun i => i = c ∨ some i = (some k)) w W9 := hW9 ▸ (K2.mono (fun _ _ h => h.elim)).drew
  clear hW9 hrem hR0 hw c0 c1 c2 c4
  obtain ⟨k', hkk, hk9, ha9⟩ : ∃ k', some k = some k' ∧ W9.heap[k']? = some (.cells R.toArray 9 (0, 0)) ∧ a < R.length := by
    rcases h9.ring with ⟨h, -⟩ | h
    · simp at h
    · exact h
  obtain rfl : k = k' := by simpa using hkk
  have hck : c ≠ k := by rintro rfl; have := h9.cell; rw [hk9] at this; simp at this
  have c2 : W9.cell? ⟨c, 2, none⟩ = some (.int .i64 L.length) := cells_at h9.cell 2
  have f2 := free_at h9.cell 2
  obtain ⟨v0, hv0⟩ : ∃ v0, R[p]? = some v0 := ⟨_, List.getElem?_eq_getElem hpl⟩
  have cp : W9.cell? ⟨k, p, none⟩ = some v0 := (cells_at hk9 p).trans (by simpa using hv0)
  have fp := free_at hk9 p
  have hfin : Did_s w c (some k) room false (L ++ [.string x]) ((W9.setCell ⟨k, p, none⟩ (.string x)).setCell ⟨c, 2, none⟩ (.int .i64 (L.length + 1))) := by
    refine ⟨some k, R.set p (.string x), a, ⟨?_, .inr ⟨k, rfl, ?_, by simpa using ha9⟩, ?_, ?_, by simpa using h9.rlen, h9.room1, h9.room2⟩, .inl rfl, (K9.setCell (.inl (.inr rfl)) _).setCell (.inl (.inl rfl)) _⟩
    · rw [setCell_block (by rw [Below.heap_setCell _ _ _ _ hck]; exact h9.cell)]; simp [ringv]
    · rw [Below.heap_setCell _ _ _ _ (Ne.symm hck), setCell_block hk9]; simp
    · intro v hv
      rcases List.mem_or_eq_of_mem_set hv with hv | rfl
      · exact h9.els v hv
      · exact ⟨_, rfl⟩
    · have := cont_send h9.cont hf (.string x)
      rw [← HP.out] at this
      exact this
  have c2' : (W9.setCell ⟨k, p, none⟩ (.string x)).cell? ⟨c, 2, none⟩ = some (.int .i64 L.length) := by rw [World.cell?_setCell_other _ _ _ _ (by simp <;> omega)]; exact c2
  have HF := hidp hfin
  clear c2 hfin hck h9 K9 hk9 ha9 hkk HP hv0
  go_wp2
  go_ret
  exact ⟨rfl, HF.out⟩

def el_i (v : Value) : Prop := ∃ n, v = Value.int .i64 n

theorem el_i.one {v : Value} (h : el_i v) : v.oneCell' = true := by obtain ⟨_, rfl⟩ := h; rfl

/-- block c is a channel that holds L in the ring R (block g), from place a on. -/
structure Ch_i (w : World) (c : Nat) (g : Option Nat) (R : List Value) (a room : Nat) (closed : Bool) (L : List Value) : Prop where
  cell : w.heap[c]? = some (.cells #[ringv g R.length, .int .i64 a, .int .i64 L.length, .int .i64 room, .bool closed] 62 (0, 0))
  ring : (g = none ∧ R = [] ∧ a = 0) ∨ ∃ k, g = some k ∧ w.heap[k]? = some (.cells R.toArray 3 (0, 0)) ∧ a < R.length
  els : ∀ v ∈ R, el_i v
  cont : Cont R a L
  rlen : R.length ≤ room
  room1 : 1 ≤ room
  room2 : room ≤ 65536

theorem Ch_i.keep {w w' : World} {c : Nat} {g : Option Nat} {R : List Value} {a room : Nat} {closed : Bool} {L : List Value} (h : Ch_i w c g R a room closed L) {S : Nat → Prop} (hk : Keeps S w w') (hc : ¬ S c) (hg : ∀ k, g = some k → ¬ S k) : Ch_i w' c g R a room closed L := by
  refine ⟨(hk.block c (Array.getElem?_eq_some_iff.1 h.cell).1 hc).trans h.cell, ?_, h.els, h.cont, h.rlen, h.room1, h.room2⟩
  rcases h.ring with hr | ⟨k, hk1, hk2, hk3⟩
  · exact .inl hr
  · exact .inr ⟨k, hk1, (hk.block k (Array.getElem?_eq_some_iff.1 hk2).1 (hg k hk1)).trans hk2, hk3⟩

/-- what an operation on the channel leaves. -/
def Did_i (w : World) (c : Nat) (g : Option Nat) (room : Nat) (closed : Bool) (L : List Value) (w' : World) : Prop :=
  ∃ g' R' a', Ch_i w' c g' R' a' room closed L ∧ (g' = g ∨ ∃ k, g' = some k ∧ w.heap.size ≤ k) ∧ Keeps (fun k => k = c ∨ some k = g) w w'

theorem newok_i (w : World) (room : Int) (h1 : 1 ≤ room) (h2 : room ≤ 65536) :
    Calls Try.prog 6 #[.int .i64 room] w fun e w' => e = .returned (.tuple #[.pointer (some ⟨w.heap.size, 0, none⟩), .int .i64 0]) ∧ Ch_i w' w.heap.size none [] 0 room.toNat false [] ∧ Keeps (fun _ => False) w w' ∧ w'.heap.size = w.heap.size + 1 := by
  obtain ⟨r, rfl⟩ := Int.eq_ofNat_of_zero_le (show 0 ≤ room by omega)
  have hfin : Ch_i (w.alloc (.cells #[.slice none 0 0, .int .i64 0, .int .i64 0, .int .i64 r, .bool false] 62)) w.heap.size none [] 0 r false [] :=
    ⟨heap_alloc_new w _, .inl ⟨rfl, rfl, rfl⟩, by simp, cont_nil _ _, by simp, by omega, by omega⟩
  have HF := hidp hfin
  clear hfin
  go_enter Try.func6, Try.ntmps6
  go_wp2
  go_ret2
  exact ⟨rfl, by simpa using HF.out, (Keeps.refl _ _).alloc _, by simp⟩

theorem newno_i (w : World) (room : Int) (h : room < 1 ∨ 65536 < room) :
    Calls Try.prog 6 #[.int .i64 room] w fun e w' => e = .returned (.tuple #[.pointer none, .int .i64 1]) ∧ w = w' := by
  rcases (show room < 1 ∨ (1 ≤ room ∧ 65536 < room) by omega) with h | ⟨h, h'⟩
  all_goals
    go_enter Try.func6, Try.ntmps6
    go_wp2
    go_ret2
    exact ⟨rfl, rfl⟩

theorem len_i {w : World} {c : Nat} {g : Option Nat} {R : List Value} {a room : Nat} {closed : Bool} {L : List Value} (h : Ch_i w c g R a room closed L) :
    Calls Try.prog 8 #[.pointer (some ⟨c, 0, none⟩)] w fun e w' => e = .returned (.int .i64 L.length) ∧ w = w' := by
  have c2 : w.cell? ⟨c, 2, none⟩ = some (.int .i64 L.length) := cells_at h.cell 2
  go_enter Try.func8, Try.ntmps8
  go_wp2
  go_ret
  exact ⟨rfl, rfl⟩

theorem room_i {w : World} {c : Nat} {g : Option Nat} {R : List Value} {a room : Nat} {closed : Bool} {L : List Value} (h : Ch_i w c g R a room closed L) :
    Calls Try.prog 9 #[.pointer (some ⟨c, 0, none⟩)] w fun e w' => e = .returned (.int .i64 ((room : Int) - L.length)) ∧ ∃ n, w' = w.drewN n := by
  have c2 : w.cell? ⟨c, 2, none⟩ = some (.int .i64 L.length) := cells_at h.cell 2
  have c3 : w.cell? ⟨c, 3, none⟩ = some (.int .i64 room) := cells_at h.cell 3
  have h1 := h.cont.1
  have h2 := h.rlen
  have h3 := h.room2
  have hw : IntKind.i64.wrap ((room : Int) - L.length) = (room : Int) - L.length := IntWalk.i64_in _ (by omega)
  go_enter Try.func9, Try.ntmps9
  go_wp2
  go_quiet (fail)
  go_wp2
  go_ret
  exact ⟨rfl, _, rfl⟩

theorem close_yes_i {w : World} {c : Nat} {g : Option Nat} {R : List Value} {a room : Nat} {L : List Value} (h : Ch_i w c g R a room true L) :
    Calls Try.prog 23 #[.pointer (some ⟨c, 0, none⟩)] w fun e w' => e = .returned (.int .i64 102) ∧ w = w' := by
  have c4 : w.cell? ⟨c, 4, none⟩ = some (.bool true) := cells_at h.cell 4
  go_enter Try.func23, Try.ntmps23
  go_wp2
  go_ret
  exact ⟨rfl, rfl⟩

theorem close_no_i {w : World} {c : Nat} {g : Option Nat} {R : List Value} {a room : Nat} {L : List Value} (h : Ch_i w c g R a room false L) :
    Calls Try.prog 23 #[.pointer (some ⟨c, 0, none⟩)] w fun e w' => e = .returned (.int .i64 0) ∧ Did_i w c g room true L w' := by
  have c4 : w.cell? ⟨c, 4, none⟩ = some (.bool false) := cells_at h.cell 4
  have f4 := free_at h.cell 4
  have hfin : Did_i w c g room true L (w.setCell ⟨c, 4, none⟩ (.bool true)) := by
    refine ⟨g, R, a, ⟨by rw [setCell_block h.cell]; simp, ?_, h.els, h.cont, h.rlen, h.room1, h.room2⟩, .inl rfl, (Keeps.refl _ _).setCell (.inl (.inl rfl)) _⟩
    rcases h.ring with hr | ⟨k, hk1, hk2, hk3⟩
    · exact .inl hr
    · refine .inr ⟨k, hk1, ?_, hk3⟩
      rw [Below.heap_setCell _ _ _ _ (by rintro rfl; have := h.cell; rw [hk2] at this; simp at this)]
      exact hk2
  have HF := hidp hfin
  clear hfin
  go_enter Try.func23, Try.ntmps23
  go_wp2
  go_ret
  exact ⟨rfl, HF.out⟩

theorem send_closed_i {w : World} {c : Nat} {g : Option Nat} {R : List Value} {a room : Nat} {L : List Value} (h : Ch_i w c g R a room true L) (x : Int) :
    Calls Try.prog 19 #[.pointer (some ⟨c, 0, none⟩), .int .i64 x] w fun e w' => e = .returned (.int .i64 102) ∧ w = w' := by
  have c4 : w.cell? ⟨c, 4, none⟩ = some (.bool true) := cells_at h.cell 4
  go_enter Try.func19, Try.ntmps19
  go_wp2
  go_ret
  exact ⟨rfl, rfl⟩

theorem send_full_i {w : World} {c : Nat} {g : Option Nat} {R : List Value} {a room : Nat} {L : List Value} (h : Ch_i w c g R a room false L) (hf : L.length = room) (x : Int) :
    Calls Try.prog 19 #[.pointer (some ⟨c, 0, none⟩), .int .i64 x] w fun e w' => e = .returned (.int .i64 100) ∧ ∃ n, w' = w.drewN n := by
  have c4 : w.cell? ⟨c, 4, none⟩ = some (.bool false) := cells_at h.cell 4
  have c2 : w.cell? ⟨c, 2, none⟩ = some (.int .i64 L.length) := cells_at h.cell 2
  have c3 : w.cell? ⟨c, 3, none⟩ = some (.int .i64 room) := cells_at h.cell 3
  subst hf
  go_enter Try.func19, Try.ntmps19
  go_wp2
  go_quiet (fail)
  go_wp2
  go_ret
  exact ⟨rfl, _, rfl⟩

theorem send_fit_i {w : World} {c : Nat} {g : Option Nat} {R : List Value} {a room : Nat} {L : List Value} (h : Ch_i w c g R a room false L) (hf : L.length < R.length) (x : Int) :
    Calls Try.prog 19 #[.pointer (some ⟨c, 0, none⟩), .int .i64 x] w fun e w' => e = .returned (.int .i64 0) ∧ Did_i w c g room false (L ++ [.int .i64 x]) w' := by
  have c4 : w.cell? ⟨c, 4, none⟩ = some (.bool false) := cells_at h.cell 4
  have c2 : w.cell? ⟨c, 2, none⟩ = some (.int .i64 L.length) := cells_at h.cell 2
  have c3 : w.cell? ⟨c, 3, none⟩ = some (.int .i64 room) := cells_at h.cell 3
  have c1 : w.cell? ⟨c, 1, none⟩ = some (.int .i64 a) := cells_at h.cell 1
  obtain ⟨k, rfl, hk, ha⟩ : ∃ k, g = some k ∧ w.heap[k]? = some (.cells R.toArray 3 (0, 0)) ∧ a < R.length := by
    rcases h.ring with ⟨-, rfl, -⟩ | h
    · simp at hf
    · exact h
  have c0 : w.cell? ⟨c, 0, none⟩ = some (.slice (some ⟨k, 0, none⟩) R.length R.length) := cells_at h.cell 0
  have hr := h.rlen
  have hr2 := h.room2
  have n1 : ((L.length : Int) == (room : Int)) = false := by simp; omega
  have n2 : ((L.length : Int) == (R.length : Int)) = false := by simp; omega
  have H := hidp h
  have HK := hidp hk
  clear h hk
  go_enter Try.func19, Try.ntmps19
  go_wp2
  go_quiet (fail)
  go_wp2
  obtain ⟨W1, hW1⟩ : ∃ W1, W1 = w.drewN nq := ⟨_, rfl⟩
  rw [← hW1]
  have K1 : Keeps (fun _ => False) w W1 := hW1 ▸ keeps_drewN (Keeps.refl _ _) _
  clear hW1 c0 c1 c2 c3 c4
  have h1 := H.out.keep K1 (by simp) (by simp)
  have c4 : W1.cell? ⟨c, 4, none⟩ = some (.bool false) := cells_at h1.cell 4
  have c2 : W1.cell? ⟨c, 2, none⟩ = some (.int .i64 L.length) := cells_at h1.cell 2
  have c3 : W1.cell? ⟨c, 3, none⟩ = some (.int .i64 room) := cells_at h1.cell 3
  have c1 : W1.cell? ⟨c, 1, none⟩ = some (.int .i64 a) := cells_at h1.cell 1
  have c0 : W1.cell? ⟨c, 0, none⟩ = some (.slice (some ⟨k, 0, none⟩) R.length R.length) := cells_at h1.cell 0
  clear h1
  go_quiet (fail)
  go_wp2
  obtain ⟨W2, hW2⟩ : ∃ W2, W2 = W1.drewN nq := ⟨_, rfl⟩
  rw [← hW2]
  have K2 : Keeps (fun _ => False) w W2 := hW2 ▸ keeps_drewN K1 _
  clear hW2 K1 c0 c1 c2 c3 c4 n1 n2
  have h1 := H.out.keep K2 (by simp) (by simp)
  have H2 := h1
  have c4 : W2.cell? ⟨c, 4, none⟩ = some (.bool false) := cells_at h1.cell 4
  have c2 : W2.cell? ⟨c, 2, none⟩ = some (.int .i64 L.length) := cells_at h1.cell 2
  have c1 : W2.cell? ⟨c, 1, none⟩ = some (.int .i64 a) := cells_at h1.cell 1
  have c0 : W2.cell? ⟨c, 0, none⟩ = some (.slice (some ⟨k, 0, none⟩) R.length R.length) := cells_at h1.cell 0
  clear h1
  have hw : IntKind.i64.wrap ((a : Int) + L.length) = ((a : Int) + L.length) := IntWalk.i64_in _ (by omega)
  obtain ⟨p, hp⟩ : ∃ p, p = (a + L.length) % R.length := ⟨_, rfl⟩
  have hpl : p < R.length := hp ▸ Nat.mod_lt _ (by omega)
  have hrem : (((a : Int) + L.length)).tmod R.length = p := tmod_nat (a := a + L.length) (by omega) hp
  have hR0 : ¬ R = [] := by intro e; rw [e] at hpl; simp at hpl
  have HP := hidp hp
  clear hp
  go_still_tail 20, (by kernel_rfl)
  change wpList _ _ _ _ _ W2.drew
  obtain ⟨W9, hW9⟩ : ∃ W9, W9 = W2.drew := ⟨_, rfl⟩
  rw [← hW9]
  have h9 := H2.keep (hW9 ▸ (Keeps.refl (fun _ => False) W2).drew) (by simp) (by simp)
  have K9 : Keeps (fun i => i = c ∨ some i = (some k)) w W9 := hW9 ▸ (K2.mono (fun _ _ h => h.elim)).drew
  clear hW9 hrem hR0 hw c0 c1 c2 c4
  obtain ⟨k', hkk, hk9, ha9⟩ : ∃ k', some k = some k' ∧ W9.heap[k']? = some (.cells R.toArray 3 (0, 0)) ∧ a < R.length := by
    rcases h9.ring with ⟨h, -⟩ | h
    · simp at h
    · exact h
  obtain rfl : k = k' := by simpa using hkk
  have hck : c ≠ k := by rintro rfl; have := h9.cell; rw [hk9] at this; simp at this
  have c2 : W9.cell? ⟨c, 2, none⟩ = some (.int .i64 L.length) := cells_at h9.cell 2
  have f2 := free_at h9.cell 2
  obtain ⟨v0, hv0⟩ : ∃ v0, R[p]? = some v0 := ⟨_, List.getElem?_eq_getElem hpl⟩
  have cp : W9.cell? ⟨k, p, none⟩ = some v0 := (cells_at hk9 p).trans (by simpa using hv0)
  have fp := free_at hk9 p
  have hfin : Did_i w c (some k) room false (L ++ [.int .i64 x]) ((W9.setCell ⟨k, p, none⟩ (.int .i64 x)).setCell ⟨c, 2, none⟩ (.int .i64 (L.length + 1))) := by
    refine ⟨some k, R.set p (.int .i64 x), a, ⟨?_, .inr ⟨k, rfl, ?_, by simpa using ha9⟩, ?_, ?_, by simpa using h9.rlen, h9.room1, h9.room2⟩, .inl rfl, (K9.setCell (.inl (.inr rfl)) _).setCell (.inl (.inl rfl)) _⟩
    · rw [setCell_block (by rw [Below.heap_setCell _ _ _ _ hck]; exact h9.cell)]; simp [ringv]
    · rw [Below.heap_setCell _ _ _ _ (Ne.symm hck), setCell_block hk9]; simp
    · intro v hv
      rcases List.mem_or_eq_of_mem_set hv with hv | rfl
      · exact h9.els v hv
      · exact ⟨_, rfl⟩
    · have := cont_send h9.cont hf (.int .i64 x)
      rw [← HP.out] at this
      exact this
  have c2' : (W9.setCell ⟨k, p, none⟩ (.int .i64 x)).cell? ⟨c, 2, none⟩ = some (.int .i64 L.length) := by rw [World.cell?_setCell_other _ _ _ _ (by simp <;> omega)]; exact c2
  have HF := hidp hfin
  clear c2 hfin hck h9 K9 hk9 ha9 hkk HP hv0
  go_wp2
  go_ret
  exact ⟨rfl, HF.out⟩

theorem grow_all_s {w : World} {c : Nat} {g : Option Nat} {R : List Value} {a room : Nat} {closed : Bool} {L : List Value} (h : Ch_s w c g R a room closed L) (hf : L.length = R.length) (hr : R.length < room) :
    Calls Try.prog 25 #[.pointer (some ⟨c, 0, none⟩)] w fun e w' => e = .returned (.tuple #[]) ∧ ∃ k R', Ch_s w' c (some k) R' 0 room closed L ∧ L.length < R'.length ∧ w.heap.size ≤ k ∧ Keeps (fun i => i = c) w w' := by
  have fin : ∀ (K : Nat) e w', R.length < K → K ≤ room → Grown_s c L.length room a R closed K w e w' → e = .returned (.tuple #[]) ∧ ∃ k R', Ch_s w' c (some k) R' 0 room closed L ∧ L.length < R'.length ∧ w.heap.size ≤ k ∧ Keeps (fun i => i = c) w w' := by
    rintro K e w' hK1 hK2 ⟨rfl, g1, g2, g3⟩
    have hal : a ≤ R.length := by
      rcases h.ring with ⟨-, -, rfl⟩ | ⟨k, -, -, h⟩ <;> omega
    have hlen : (spun R a ++ (zrow (.string ByteArray.empty) K).drop R.length).length = K := by
      rw [List.length_append, spun_len hal, List.length_drop, zrow_len]; omega
    refine ⟨rfl, w.heap.size, spun R a ++ (zrow (.string ByteArray.empty) K).drop R.length, ⟨?_, .inr ⟨_, rfl, g2, by omega⟩, ?_, ?_, by omega, h.room1, h.room2⟩, by omega, Nat.le_refl _, g3⟩
    · rw [hlen]; exact g1
    · intro v hv
      rcases List.mem_append.1 hv with hv | hv
      · unfold spun at hv
        rcases List.mem_append.1 hv with hv | hv
        · exact h.els v (List.mem_of_mem_drop hv)
        · exact h.els v (List.mem_of_mem_take hv)
      · have := List.mem_of_mem_drop hv
        unfold zrow at this
        rw [List.eq_of_mem_replicate this]
        exact ⟨_, rfl⟩
    · refine cont_grow h.cont hf ?_ _
      rcases h.ring with ⟨-, rfl, -⟩ | ⟨k, -, -, h⟩
      · exact .inr rfl
      · exact .inl h
  have h1c : ∀ v ∈ R, v.oneCell' = true := fun v hv => (h.els v hv).one
  have hr2 := h.room2
  rcases h.ring with ⟨rfl, rfl, rfl⟩ | ⟨k, rfl, hk, ha⟩
  · have hc := h.cell
    simp only [ringv, List.length_nil] at hc hr
    by_cases h4 : 4 ≤ room
    · exact (grow0_s_a w c _ room closed hc (by omega) (by omega) 4 rfl).mono fun e w' => fin 4 e w' (by simp) h4
    · exact (grow0_s_b w c _ room closed hc (by omega) (by omega) room rfl).mono fun e w' => fin room e w' (by simp; omega) (Nat.le_refl _)
  · have hc := h.cell
    simp only [ringv] at hc
    by_cases h4 : 2 * R.length < 4
    · by_cases h5 : 4 ≤ room
      · exact (grow_s_a w c k _ room a R closed hc hk h1c ha hr hr2 (by omega) (by omega) 4 rfl).mono fun e w' => fin 4 e w' (by omega) h5
      · exact (grow_s_b w c k _ room a R closed hc hk h1c ha hr hr2 (by omega) (by omega) room rfl).mono fun e w' => fin room e w' (by omega) (Nat.le_refl _)
    · by_cases h5 : 2 * R.length ≤ room
      · exact (grow_s_c w c k _ room a R closed hc hk h1c ha hr hr2 (by omega) (by omega) (2 * R.length) (by omega)).mono fun e w' => fin (2 * R.length) e w' (by omega) h5
      · exact (grow_s_d w c k _ room a R closed hc hk h1c ha hr hr2 (by omega) (by omega) room rfl).mono fun e w' => fin room e w' (by omega) (Nat.le_refl _)

theorem send_grown_s {w : World} {c : Nat} {a room : Nat} {L : List Value} (h : Ch_s w c none [] a room false L) (hf : L.length = 0) (hr : 0 < room) (x : ByteArray) :
    Calls Try.prog 12 #[.pointer (some ⟨c, 0, none⟩), .string x] w fun e w' => e = .returned (.int .i64 0) ∧ Did_s w c none room false (L ++ [.string x]) w' := by
  have c4 : w.cell? ⟨c, 4, none⟩ = some (.bool false) := cells_at h.cell 4
  have c2 : w.cell? ⟨c, 2, none⟩ = some (.int .i64 L.length) := cells_at h.cell 2
  have c3 : w.cell? ⟨c, 3, none⟩ = some (.int .i64 room) := cells_at h.cell 3
  have hr2 := h.room2
  have n1 : ((L.length : Int) == (room : Int)) = false := by simp; omega
  have H := hidp h
  have HFULL := hidp hf
  clear h hf
  go_enter Try.func12, Try.ntmps12
  go_wp2
  go_quiet (fail)
  go_wp2
  obtain ⟨W1, hW1⟩ : ∃ W1, W1 = w.drewN nq := ⟨_, rfl⟩
  rw [← hW1]
  have K1 : Keeps (fun _ => False) w W1 := hW1 ▸ keeps_drewN (Keeps.refl _ _) _
  clear hW1 c2 c3 c4 n1
  have h1 := H.out.keep K1 (by simp) (by simp)
  have c2 : W1.cell? ⟨c, 2, none⟩ = some (.int .i64 L.length) := cells_at h1.cell 2
  have c0 : W1.cell? ⟨c, 0, none⟩ = some (.slice none 0 0) := cells_at h1.cell 0
  have n2 : ((L.length : Int) == 0) = true := beq_iff_eq.2 (by have := HFULL.out; omega)
  clear h1
  go_quiet (fail)
  go_wp2_with fail
  obtain ⟨W2, hW2⟩ : ∃ W2, W2 = W1.drewN nq := ⟨_, rfl⟩
  rw [← hW2]
  have K2 : Keeps (fun _ => False) w W2 := hW2 ▸ keeps_drewN K1 _
  clear hW2 K1 c0 c2 n2
  refine (grow_all_s (H.out.keep K2 (by simp) (by simp)) HFULL.out (by first | exact hr | omega)).mono ?_
  rintro e W3 ⟨rfl, k2, R2, H2, hlt2, hk2, K3⟩
  have hr3 := H2.rlen
  have hkw : w.heap.size ≤ k2 := Nat.le_trans K2.size hk2
  have K3' : Keeps (fun i => i = c ∨ some i = none) w W3 := (K2.mono (fun _ _ h => h.elim)).trans (K3.mono (fun _ _ h => .inl h))
  clear K2 K3 hk2
  go_wp2
  have h1 := H2
  have c4 : W3.cell? ⟨c, 4, none⟩ = some (.bool false) := cells_at h1.cell 4
  have c2 : W3.cell? ⟨c, 2, none⟩ = some (.int .i64 L.length) := cells_at h1.cell 2
  have c1 : W3.cell? ⟨c, 1, none⟩ = some (.int .i64 0) := cells_at h1.cell 1
  have c0 : W3.cell? ⟨c, 0, none⟩ = some (.slice (some ⟨k2, 0, none⟩) R2.length R2.length) := cells_at h1.cell 0
  clear h1
  have hw : IntKind.i64.wrap (L.length : Int) = (L.length : Int) := IntWalk.i64_in _ (by omega)
  obtain ⟨p, hp⟩ : ∃ p, p = (0 + L.length) % R2.length := ⟨_, rfl⟩
  have hpl : p < R2.length := hp ▸ Nat.mod_lt _ (by omega)
  have hrem : ((L.length : Int)).tmod R2.length = p := tmod_nat (a := 0 + L.length) (by omega) hp
  have hR0 : ¬ R2 = [] := by intro e; rw [e] at hpl; simp at hpl
  have HP := hidp hp
  clear hp
  go_still_tail 20, (by kernel_rfl)
  change wpList _ _ _ _ _ W3.drew
  obtain ⟨W9, hW9⟩ : ∃ W9, W9 = W3.drew := ⟨_, rfl⟩
  rw [← hW9]
  have h9 := H2.keep (hW9 ▸ (Keeps.refl (fun _ => False) W3).drew) (by simp) (by simp)
  have K9 : Keeps (fun i => i = c ∨ some i = none) w W9 := hW9 ▸ (K3').drew
  clear hW9 hrem hR0 hw c0 c1 c2 c4
  obtain ⟨k', hkk, hk9, ha9⟩ : ∃ k', some k2 = some k' ∧ W9.heap[k']? = some (.cells R2.toArray 9 (0, 0)) ∧ 0 < R2.length := by
    rcases h9.ring with ⟨h, -⟩ | h
    · simp at h
    · exact h
  obtain rfl : k2 = k' := by simpa using hkk
  have hck : c ≠ k2 := by rintro rfl; have := h9.cell; rw [hk9] at this; simp at this
  have c2 : W9.cell? ⟨c, 2, none⟩ = some (.int .i64 L.length) := cells_at h9.cell 2
  have f2 := free_at h9.cell 2
  obtain ⟨v0, hv0⟩ : ∃ v0, R2[p]? = some v0 := ⟨_, List.getElem?_eq_getElem hpl⟩
  have cp : W9.cell? ⟨k2, p, none⟩ = some v0 := (cells_at hk9 p).trans (by simpa using hv0)
  have fp := free_at hk9 p
  have hfin : Did_s w c none room false (L ++ [.string x]) ((W9.setCell ⟨k2, p, none⟩ (.string x)).setCell ⟨c, 2, none⟩ (.int .i64 (L.length + 1))) := by
    refine ⟨some k2, R2.set p (.string x), 0, ⟨?_, .inr ⟨k2, rfl, ?_, by simpa using ha9⟩, ?_, ?_, by simpa using h9.rlen, h9.room1, h9.room2⟩, .inr ⟨k2, rfl, hkw⟩, (K9.setCell (.inr hkw) _).setCell (.inl (.inl rfl)) _⟩
    · rw [setCell_block (by rw [Below.heap_setCell _ _ _ _ hck]; exact h9.cell)]; simp [ringv]
    · rw [Below.heap_setCell _ _ _ _ (Ne.symm hck), setCell_block hk9]; simp
    · intro v hv
      rcases List.mem_or_eq_of_mem_set hv with hv | rfl
      · exact h9.els v hv
      · exact ⟨_, rfl⟩
    · have := cont_send h9.cont hlt2 (.string x)
      rw [← HP.out] at this
      exact this
  have c2' : (W9.setCell ⟨k2, p, none⟩ (.string x)).cell? ⟨c, 2, none⟩ = some (.int .i64 L.length) := by rw [World.cell?_setCell_other _ _ _ _ (by simp <;> omega)]; exact c2
  have HF := hidp hfin
  clear c2 hfin hck h9 K9 hk9 ha9 hkk HP hv0
  go_wp2
  go_ret
  exact ⟨rfl, HF.out⟩

theorem send_grows_s {w : World} {c : Nat} {k : Nat} {R : List Value} {a room : Nat} {L : List Value} (h : Ch_s w c (some k) R a room false L) (hf : L.length = R.length) (hr : R.length < room) (x : ByteArray) :
    Calls Try.prog 12 #[.pointer (some ⟨c, 0, none⟩), .string x] w fun e w' => e = .returned (.int .i64 0) ∧ Did_s w c (some k) room false (L ++ [.string x]) w' := by
  have c4 : w.cell? ⟨c, 4, none⟩ = some (.bool false) := cells_at h.cell 4
  have c2 : w.cell? ⟨c, 2, none⟩ = some (.int .i64 L.length) := cells_at h.cell 2
  have c3 : w.cell? ⟨c, 3, none⟩ = some (.int .i64 room) := cells_at h.cell 3
  have hr2 := h.room2
  have n1 : ((L.length : Int) == (room : Int)) = false := by simp; omega
  have H := hidp h
  have HFULL := hidp hf
  clear h hf
  go_enter Try.func12, Try.ntmps12
  go_wp2
  go_quiet (fail)
  go_wp2
  obtain ⟨W1, hW1⟩ : ∃ W1, W1 = w.drewN nq := ⟨_, rfl⟩
  rw [← hW1]
  have K1 : Keeps (fun _ => False) w W1 := hW1 ▸ keeps_drewN (Keeps.refl _ _) _
  clear hW1 c2 c3 c4 n1
  have h1 := H.out.keep K1 (by simp) (by simp)
  have c2 : W1.cell? ⟨c, 2, none⟩ = some (.int .i64 L.length) := cells_at h1.cell 2
  have c0 : W1.cell? ⟨c, 0, none⟩ = some (.slice (some ⟨k, 0, none⟩) R.length R.length) := cells_at h1.cell 0
  have n2 : ((L.length : Int) == (R.length : Int)) = true := beq_iff_eq.2 (by have := HFULL.out; omega)
  clear h1
  go_quiet (fail)
  go_wp2_with fail
  obtain ⟨W2, hW2⟩ : ∃ W2, W2 = W1.drewN nq := ⟨_, rfl⟩
  rw [← hW2]
  have K2 : Keeps (fun _ => False) w W2 := hW2 ▸ keeps_drewN K1 _
  clear hW2 K1 c0 c2 n2
  refine (grow_all_s (H.out.keep K2 (by simp) (by simp)) HFULL.out (by first | exact hr | omega)).mono ?_
  rintro e W3 ⟨rfl, k2, R2, H2, hlt2, hk2, K3⟩
  have hr3 := H2.rlen
  have hkw : w.heap.size ≤ k2 := Nat.le_trans K2.size hk2
  have K3' : Keeps (fun i => i = c ∨ some i = (some k)) w W3 := (K2.mono (fun _ _ h => h.elim)).trans (K3.mono (fun _ _ h => .inl h))
  clear K2 K3 hk2
  go_wp2
  have h1 := H2
  have c4 : W3.cell? ⟨c, 4, none⟩ = some (.bool false) := cells_at h1.cell 4
  have c2 : W3.cell? ⟨c, 2, none⟩ = some (.int .i64 L.length) := cells_at h1.cell 2
  have c1 : W3.cell? ⟨c, 1, none⟩ = some (.int .i64 0) := cells_at h1.cell 1
  have c0 : W3.cell? ⟨c, 0, none⟩ = some (.slice (some ⟨k2, 0, none⟩) R2.length R2.length) := cells_at h1.cell 0
  clear h1
  have hw : IntKind.i64.wrap (L.length : Int) = (L.length : Int) := IntWalk.i64_in _ (by omega)
  obtain ⟨p, hp⟩ : ∃ p, p = (0 + L.length) % R2.length := ⟨_, rfl⟩
  have hpl : p < R2.length := hp ▸ Nat.mod_lt _ (by omega)
  have hrem : ((L.length : Int)).tmod R2.length = p := tmod_nat (a := 0 + L.length) (by omega) hp
  have hR0 : ¬ R2 = [] := by intro e; rw [e] at hpl; simp at hpl
  have HP := hidp hp
  clear hp
  go_still_tail 20, (by kernel_rfl)
  change wpList _ _ _ _ _ W3.drew
  obtain ⟨W9, hW9⟩ : ∃ W9, W9 = W3.drew := ⟨_, rfl⟩
  rw [← hW9]
  have h9 := H2.keep (hW9 ▸ (Keeps.refl (fun _ => False) W3).drew) (by simp) (by simp)
  have K9 : Keeps (fun i => i = c ∨ some i = (some k)) w W9 := hW9 ▸ (K3').drew
  clear hW9 hrem hR0 hw c0 c1 c2 c4
  obtain ⟨k', hkk, hk9, ha9⟩ : ∃ k', some k2 = some k' ∧ W9.heap[k']? = some (.cells R2.toArray 9 (0, 0)) ∧ 0 < R2.length := by
    rcases h9.ring with ⟨h, -⟩ | h
    · simp at h
    · exact h
  obtain rfl : k2 = k' := by simpa using hkk
  have hck : c ≠ k2 := by rintro rfl; have := h9.cell; rw [hk9] at this; simp at this
  have c2 : W9.cell? ⟨c, 2, none⟩ = some (.int .i64 L.length) := cells_at h9.cell 2
  have f2 := free_at h9.cell 2
  obtain ⟨v0, hv0⟩ : ∃ v0, R2[p]? = some v0 := ⟨_, List.getElem?_eq_getElem hpl⟩
  have cp : W9.cell? ⟨k2, p, none⟩ = some v0 := (cells_at hk9 p).trans (by simpa using hv0)
  have fp := free_at hk9 p
  have hfin : Did_s w c (some k) room false (L ++ [.string x]) ((W9.setCell ⟨k2, p, none⟩ (.string x)).setCell ⟨c, 2, none⟩ (.int .i64 (L.length + 1))) := by
    refine ⟨some k2, R2.set p (.string x), 0, ⟨?_, .inr ⟨k2, rfl, ?_, by simpa using ha9⟩, ?_, ?_, by simpa using h9.rlen, h9.room1, h9.room2⟩, .inr ⟨k2, rfl, hkw⟩, (K9.setCell (.inr hkw) _).setCell (.inl (.inl rfl)) _⟩
    · rw [setCell_block (by rw [Below.heap_setCell _ _ _ _ hck]; exact h9.cell)]; simp [ringv]
    · rw [Below.heap_setCell _ _ _ _ (Ne.symm hck), setCell_block hk9]; simp
    · intro v hv
      rcases List.mem_or_eq_of_mem_set hv with hv | rfl
      · exact h9.els v hv
      · exact ⟨_, rfl⟩
    · have := cont_send h9.cont hlt2 (.string x)
      rw [← HP.out] at this
      exact this
  have c2' : (W9.setCell ⟨k2, p, none⟩ (.string x)).cell? ⟨c, 2, none⟩ = some (.int .i64 L.length) := by rw [World.cell?_setCell_other _ _ _ _ (by simp <;> omega)]; exact c2
  have HF := hidp hfin
  clear c2 hfin hck h9 K9 hk9 ha9 hkk HP hv0
  go_wp2
  go_ret
  exact ⟨rfl, HF.out⟩

theorem grow_all_i {w : World} {c : Nat} {g : Option Nat} {R : List Value} {a room : Nat} {closed : Bool} {L : List Value} (h : Ch_i w c g R a room closed L) (hf : L.length = R.length) (hr : R.length < room) :
    Calls Try.prog 26 #[.pointer (some ⟨c, 0, none⟩)] w fun e w' => e = .returned (.tuple #[]) ∧ ∃ k R', Ch_i w' c (some k) R' 0 room closed L ∧ L.length < R'.length ∧ w.heap.size ≤ k ∧ Keeps (fun i => i = c) w w' := by
  have fin : ∀ (K : Nat) e w', R.length < K → K ≤ room → Grown_i c L.length room a R closed K w e w' → e = .returned (.tuple #[]) ∧ ∃ k R', Ch_i w' c (some k) R' 0 room closed L ∧ L.length < R'.length ∧ w.heap.size ≤ k ∧ Keeps (fun i => i = c) w w' := by
    rintro K e w' hK1 hK2 ⟨rfl, g1, g2, g3⟩
    have hal : a ≤ R.length := by
      rcases h.ring with ⟨-, -, rfl⟩ | ⟨k, -, -, h⟩ <;> omega
    have hlen : (spun R a ++ (zrow (.int .i64 0) K).drop R.length).length = K := by
      rw [List.length_append, spun_len hal, List.length_drop, zrow_len]; omega
    refine ⟨rfl, w.heap.size, spun R a ++ (zrow (.int .i64 0) K).drop R.length, ⟨?_, .inr ⟨_, rfl, g2, by omega⟩, ?_, ?_, by omega, h.room1, h.room2⟩, by omega, Nat.le_refl _, g3⟩
    · rw [hlen]; exact g1
    · intro v hv
      rcases List.mem_append.1 hv with hv | hv
      · unfold spun at hv
        rcases List.mem_append.1 hv with hv | hv
        · exact h.els v (List.mem_of_mem_drop hv)
        · exact h.els v (List.mem_of_mem_take hv)
      · have := List.mem_of_mem_drop hv
        unfold zrow at this
        rw [List.eq_of_mem_replicate this]
        exact ⟨_, rfl⟩
    · refine cont_grow h.cont hf ?_ _
      rcases h.ring with ⟨-, rfl, -⟩ | ⟨k, -, -, h⟩
      · exact .inr rfl
      · exact .inl h
  have h1c : ∀ v ∈ R, v.oneCell' = true := fun v hv => (h.els v hv).one
  have hr2 := h.room2
  rcases h.ring with ⟨rfl, rfl, rfl⟩ | ⟨k, rfl, hk, ha⟩
  · have hc := h.cell
    simp only [ringv, List.length_nil] at hc hr
    by_cases h4 : 4 ≤ room
    · exact (grow0_i_a w c _ room closed hc (by omega) (by omega) 4 rfl).mono fun e w' => fin 4 e w' (by simp) h4
    · exact (grow0_i_b w c _ room closed hc (by omega) (by omega) room rfl).mono fun e w' => fin room e w' (by simp; omega) (Nat.le_refl _)
  · have hc := h.cell
    simp only [ringv] at hc
    by_cases h4 : 2 * R.length < 4
    · by_cases h5 : 4 ≤ room
      · exact (grow_i_a w c k _ room a R closed hc hk h1c ha hr hr2 (by omega) (by omega) 4 rfl).mono fun e w' => fin 4 e w' (by omega) h5
      · exact (grow_i_b w c k _ room a R closed hc hk h1c ha hr hr2 (by omega) (by omega) room rfl).mono fun e w' => fin room e w' (by omega) (Nat.le_refl _)
    · by_cases h5 : 2 * R.length ≤ room
      · exact (grow_i_c w c k _ room a R closed hc hk h1c ha hr hr2 (by omega) (by omega) (2 * R.length) (by omega)).mono fun e w' => fin (2 * R.length) e w' (by omega) h5
      · exact (grow_i_d w c k _ room a R closed hc hk h1c ha hr hr2 (by omega) (by omega) room rfl).mono fun e w' => fin room e w' (by omega) (Nat.le_refl _)

theorem send_grown_i {w : World} {c : Nat} {a room : Nat} {L : List Value} (h : Ch_i w c none [] a room false L) (hf : L.length = 0) (hr : 0 < room) (x : Int) :
    Calls Try.prog 19 #[.pointer (some ⟨c, 0, none⟩), .int .i64 x] w fun e w' => e = .returned (.int .i64 0) ∧ Did_i w c none room false (L ++ [.int .i64 x]) w' := by
  have c4 : w.cell? ⟨c, 4, none⟩ = some (.bool false) := cells_at h.cell 4
  have c2 : w.cell? ⟨c, 2, none⟩ = some (.int .i64 L.length) := cells_at h.cell 2
  have c3 : w.cell? ⟨c, 3, none⟩ = some (.int .i64 room) := cells_at h.cell 3
  have hr2 := h.room2
  have n1 : ((L.length : Int) == (room : Int)) = false := by simp; omega
  have H := hidp h
  have HFULL := hidp hf
  clear h hf
  go_enter Try.func19, Try.ntmps19
  go_wp2
  go_quiet (fail)
  go_wp2
  obtain ⟨W1, hW1⟩ : ∃ W1, W1 = w.drewN nq := ⟨_, rfl⟩
  rw [← hW1]
  have K1 : Keeps (fun _ => False) w W1 := hW1 ▸ keeps_drewN (Keeps.refl _ _) _
  clear hW1 c2 c3 c4 n1
  have h1 := H.out.keep K1 (by simp) (by simp)
  have c2 : W1.cell? ⟨c, 2, none⟩ = some (.int .i64 L.length) := cells_at h1.cell 2
  have c0 : W1.cell? ⟨c, 0, none⟩ = some (.slice none 0 0) := cells_at h1.cell 0
  have n2 : ((L.length : Int) == 0) = true := beq_iff_eq.2 (by have := HFULL.out; omega)
  clear h1
  go_quiet (fail)
  go_wp2_with fail
  obtain ⟨W2, hW2⟩ : ∃ W2, W2 = W1.drewN nq := ⟨_, rfl⟩
  rw [← hW2]
  have K2 : Keeps (fun _ => False) w W2 := hW2 ▸ keeps_drewN K1 _
  clear hW2 K1 c0 c2 n2
  refine (grow_all_i (H.out.keep K2 (by simp) (by simp)) HFULL.out (by first | exact hr | omega)).mono ?_
  rintro e W3 ⟨rfl, k2, R2, H2, hlt2, hk2, K3⟩
  have hr3 := H2.rlen
  have hkw : w.heap.size ≤ k2 := Nat.le_trans K2.size hk2
  have K3' : Keeps (fun i => i = c ∨ some i = none) w W3 := (K2.mono (fun _ _ h => h.elim)).trans (K3.mono (fun _ _ h => .inl h))
  clear K2 K3 hk2
  go_wp2
  have h1 := H2
  have c4 : W3.cell? ⟨c, 4, none⟩ = some (.bool false) := cells_at h1.cell 4
  have c2 : W3.cell? ⟨c, 2, none⟩ = some (.int .i64 L.length) := cells_at h1.cell 2
  have c1 : W3.cell? ⟨c, 1, none⟩ = some (.int .i64 0) := cells_at h1.cell 1
  have c0 : W3.cell? ⟨c, 0, none⟩ = some (.slice (some ⟨k2, 0, none⟩) R2.length R2.length) := cells_at h1.cell 0
  clear h1
  have hw : IntKind.i64.wrap (L.length : Int) = (L.length : Int) := IntWalk.i64_in _ (by omega)
  obtain ⟨p, hp⟩ : ∃ p, p = (0 + L.length) % R2.length := ⟨_, rfl⟩
  have hpl : p < R2.length := hp ▸ Nat.mod_lt _ (by omega)
  have hrem : ((L.length : Int)).tmod R2.length = p := tmod_nat (a := 0 + L.length) (by omega) hp
  have hR0 : ¬ R2 = [] := by intro e; rw [e] at hpl; simp at hpl
  have HP := hidp hp
  clear hp
  go_still_tail 20, (by kernel_rfl)
  change wpList _ _ _ _ _ W3.drew
  obtain ⟨W9, hW9⟩ : ∃ W9, W9 = W3.drew := ⟨_, rfl⟩
  rw [← hW9]
  have h9 := H2.keep (hW9 ▸ (Keeps.refl (fun _ => False) W3).drew) (by simp) (by simp)
  have K9 : Keeps (fun i => i = c ∨ some i = none) w W9 := hW9 ▸ (K3').drew
  clear hW9 hrem hR0 hw c0 c1 c2 c4
  obtain ⟨k', hkk, hk9, ha9⟩ : ∃ k', some k2 = some k' ∧ W9.heap[k']? = some (.cells R2.toArray 3 (0, 0)) ∧ 0 < R2.length := by
    rcases h9.ring with ⟨h, -⟩ | h
    · simp at h
    · exact h
  obtain rfl : k2 = k' := by simpa using hkk
  have hck : c ≠ k2 := by rintro rfl; have := h9.cell; rw [hk9] at this; simp at this
  have c2 : W9.cell? ⟨c, 2, none⟩ = some (.int .i64 L.length) := cells_at h9.cell 2
  have f2 := free_at h9.cell 2
  obtain ⟨v0, hv0⟩ : ∃ v0, R2[p]? = some v0 := ⟨_, List.getElem?_eq_getElem hpl⟩
  have cp : W9.cell? ⟨k2, p, none⟩ = some v0 := (cells_at hk9 p).trans (by simpa using hv0)
  have fp := free_at hk9 p
  have hfin : Did_i w c none room false (L ++ [.int .i64 x]) ((W9.setCell ⟨k2, p, none⟩ (.int .i64 x)).setCell ⟨c, 2, none⟩ (.int .i64 (L.length + 1))) := by
    refine ⟨some k2, R2.set p (.int .i64 x), 0, ⟨?_, .inr ⟨k2, rfl, ?_, by simpa using ha9⟩, ?_, ?_, by simpa using h9.rlen, h9.room1, h9.room2⟩, .inr ⟨k2, rfl, hkw⟩, (K9.setCell (.inr hkw) _).setCell (.inl (.inl rfl)) _⟩
    · rw [setCell_block (by rw [Below.heap_setCell _ _ _ _ hck]; exact h9.cell)]; simp [ringv]
    · rw [Below.heap_setCell _ _ _ _ (Ne.symm hck), setCell_block hk9]; simp
    · intro v hv
      rcases List.mem_or_eq_of_mem_set hv with hv | rfl
      · exact h9.els v hv
      · exact ⟨_, rfl⟩
    · have := cont_send h9.cont hlt2 (.int .i64 x)
      rw [← HP.out] at this
      exact this
  have c2' : (W9.setCell ⟨k2, p, none⟩ (.int .i64 x)).cell? ⟨c, 2, none⟩ = some (.int .i64 L.length) := by rw [World.cell?_setCell_other _ _ _ _ (by simp <;> omega)]; exact c2
  have HF := hidp hfin
  clear c2 hfin hck h9 K9 hk9 ha9 hkk HP hv0
  go_wp2
  go_ret
  exact ⟨rfl, HF.out⟩

theorem send_grows_i {w : World} {c : Nat} {k : Nat} {R : List Value} {a room : Nat} {L : List Value} (h : Ch_i w c (some k) R a room false L) (hf : L.length = R.length) (hr : R.length < room) (x : Int) :
    Calls Try.prog 19 #[.pointer (some ⟨c, 0, none⟩), .int .i64 x] w fun e w' => e = .returned (.int .i64 0) ∧ Did_i w c (some k) room false (L ++ [.int .i64 x]) w' := by
  have c4 : w.cell? ⟨c, 4, none⟩ = some (.bool false) := cells_at h.cell 4
  have c2 : w.cell? ⟨c, 2, none⟩ = some (.int .i64 L.length) := cells_at h.cell 2
  have c3 : w.cell? ⟨c, 3, none⟩ = some (.int .i64 room) := cells_at h.cell 3
  have hr2 := h.room2
  have n1 : ((L.length : Int) == (room : Int)) = false := by simp; omega
  have H := hidp h
  have HFULL := hidp hf
  clear h hf
  go_enter Try.func19, Try.ntmps19
  go_wp2
  go_quiet (fail)
  go_wp2
  obtain ⟨W1, hW1⟩ : ∃ W1, W1 = w.drewN nq := ⟨_, rfl⟩
  rw [← hW1]
  have K1 : Keeps (fun _ => False) w W1 := hW1 ▸ keeps_drewN (Keeps.refl _ _) _
  clear hW1 c2 c3 c4 n1
  have h1 := H.out.keep K1 (by simp) (by simp)
  have c2 : W1.cell? ⟨c, 2, none⟩ = some (.int .i64 L.length) := cells_at h1.cell 2
  have c0 : W1.cell? ⟨c, 0, none⟩ = some (.slice (some ⟨k, 0, none⟩) R.length R.length) := cells_at h1.cell 0
  have n2 : ((L.length : Int) == (R.length : Int)) = true := beq_iff_eq.2 (by have := HFULL.out; omega)
  clear h1
  go_quiet (fail)
  go_wp2_with fail
  obtain ⟨W2, hW2⟩ : ∃ W2, W2 = W1.drewN nq := ⟨_, rfl⟩
  rw [← hW2]
  have K2 : Keeps (fun _ => False) w W2 := hW2 ▸ keeps_drewN K1 _
  clear hW2 K1 c0 c2 n2
  refine (grow_all_i (H.out.keep K2 (by simp) (by simp)) HFULL.out (by first | exact hr | omega)).mono ?_
  rintro e W3 ⟨rfl, k2, R2, H2, hlt2, hk2, K3⟩
  have hr3 := H2.rlen
  have hkw : w.heap.size ≤ k2 := Nat.le_trans K2.size hk2
  have K3' : Keeps (fun i => i = c ∨ some i = (some k)) w W3 := (K2.mono (fun _ _ h => h.elim)).trans (K3.mono (fun _ _ h => .inl h))
  clear K2 K3 hk2
  go_wp2
  have h1 := H2
  have c4 : W3.cell? ⟨c, 4, none⟩ = some (.bool false) := cells_at h1.cell 4
  have c2 : W3.cell? ⟨c, 2, none⟩ = some (.int .i64 L.length) := cells_at h1.cell 2
  have c1 : W3.cell? ⟨c, 1, none⟩ = some (.int .i64 0) := cells_at h1.cell 1
  have c0 : W3.cell? ⟨c, 0, none⟩ = some (.slice (some ⟨k2, 0, none⟩) R2.length R2.length) := cells_at h1.cell 0
  clear h1
  have hw : IntKind.i64.wrap (L.length : Int) = (L.length : Int) := IntWalk.i64_in _ (by omega)
  obtain ⟨p, hp⟩ : ∃ p, p = (0 + L.length) % R2.length := ⟨_, rfl⟩
  have hpl : p < R2.length := hp ▸ Nat.mod_lt _ (by omega)
  have hrem : ((L.length : Int)).tmod R2.length = p := tmod_nat (a := 0 + L.length) (by omega) hp
  have hR0 : ¬ R2 = [] := by intro e; rw [e] at hpl; simp at hpl
  have HP := hidp hp
  clear hp
  go_still_tail 20, (by kernel_rfl)
  change wpList _ _ _ _ _ W3.drew
  obtain ⟨W9, hW9⟩ : ∃ W9, W9 = W3.drew := ⟨_, rfl⟩
  rw [← hW9]
  have h9 := H2.keep (hW9 ▸ (Keeps.refl (fun _ => False) W3).drew) (by simp) (by simp)
  have K9 : Keeps (fun i => i = c ∨ some i = (some k)) w W9 := hW9 ▸ (K3').drew
  clear hW9 hrem hR0 hw c0 c1 c2 c4
  obtain ⟨k', hkk, hk9, ha9⟩ : ∃ k', some k2 = some k' ∧ W9.heap[k']? = some (.cells R2.toArray 3 (0, 0)) ∧ 0 < R2.length := by
    rcases h9.ring with ⟨h, -⟩ | h
    · simp at h
    · exact h
  obtain rfl : k2 = k' := by simpa using hkk
  have hck : c ≠ k2 := by rintro rfl; have := h9.cell; rw [hk9] at this; simp at this
  have c2 : W9.cell? ⟨c, 2, none⟩ = some (.int .i64 L.length) := cells_at h9.cell 2
  have f2 := free_at h9.cell 2
  obtain ⟨v0, hv0⟩ : ∃ v0, R2[p]? = some v0 := ⟨_, List.getElem?_eq_getElem hpl⟩
  have cp : W9.cell? ⟨k2, p, none⟩ = some v0 := (cells_at hk9 p).trans (by simpa using hv0)
  have fp := free_at hk9 p
  have hfin : Did_i w c (some k) room false (L ++ [.int .i64 x]) ((W9.setCell ⟨k2, p, none⟩ (.int .i64 x)).setCell ⟨c, 2, none⟩ (.int .i64 (L.length + 1))) := by
    refine ⟨some k2, R2.set p (.int .i64 x), 0, ⟨?_, .inr ⟨k2, rfl, ?_, by simpa using ha9⟩, ?_, ?_, by simpa using h9.rlen, h9.room1, h9.room2⟩, .inr ⟨k2, rfl, hkw⟩, (K9.setCell (.inr hkw) _).setCell (.inl (.inl rfl)) _⟩
    · rw [setCell_block (by rw [Below.heap_setCell _ _ _ _ hck]; exact h9.cell)]; simp [ringv]
    · rw [Below.heap_setCell _ _ _ _ (Ne.symm hck), setCell_block hk9]; simp
    · intro v hv
      rcases List.mem_or_eq_of_mem_set hv with hv | rfl
      · exact h9.els v hv
      · exact ⟨_, rfl⟩
    · have := cont_send h9.cont hlt2 (.int .i64 x)
      rw [← HP.out] at this
      exact this
  have c2' : (W9.setCell ⟨k2, p, none⟩ (.int .i64 x)).cell? ⟨c, 2, none⟩ = some (.int .i64 L.length) := by rw [World.cell?_setCell_other _ _ _ _ (by simp <;> omega)]; exact c2
  have HF := hidp hfin
  clear c2 hfin hck h9 K9 hk9 ha9 hkk HP hv0
  go_wp2
  go_ret
  exact ⟨rfl, HF.out⟩
end Go.Proofs.Ytmnciedkkceiaaa
