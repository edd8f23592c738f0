/- Send and Recv of the played channels, every case. -/
import Derived.Test.YtmnciedkkceiaaaChan
namespace Go.Proofs.Ytmnciedkkceiaaa
open Go.RowKit Go.Pairs

def sendCode (closed : Bool) (n room : Nat) : Int := if closed then 102 else if n = room then 100 else 0
def sendL (closed : Bool) (L : List Value) (room : Nat) (x : Value) : List Value := if closed then L else if L.length = room then L else L ++ [x]
def recvCode (closed : Bool) (L : List Value) : Int := if L = [] then (if closed then 102 else 101) else 0

theorem did_refl_s {w : World} {c : Nat} {g : Option Nat} {R : List Value} {a room : Nat} {closed : Bool} {L : List Value} (h : Ch_s w c g R a room closed L) : Did_s w c g room closed L w :=
  ⟨g, R, a, h, .inl rfl, Keeps.refl _ _⟩

theorem did_drewN_s {w : World} {c : Nat} {g : Option Nat} {R : List Value} {a room : Nat} {closed : Bool} {L : List Value} (h : Ch_s w c g R a room closed L) (n : Nat) : Did_s w c g room closed L (w.drewN n) :=
  ⟨g, R, a, h.keep (keeps_drewN (Keeps.refl (fun _ => False) w) n) (by simp) (by simp), .inl rfl, keeps_drewN (Keeps.refl _ _) _⟩

theorem send_s {w : World} {c : Nat} {g : Option Nat} {R : List Value} {a room : Nat} {closed : Bool} {L : List Value} (h : Ch_s w c g R a room closed L) (x : ByteArray) :
    Calls Try.prog 12 #[.pointer (some ⟨c, 0, none⟩), .string x] w fun e w' => e = .returned (.int .i64 (sendCode closed L.length room)) ∧ Did_s w c g room closed (sendL closed L room (.string x)) w' := by
  cases closed with
  | true =>
    refine (send_closed_s h x).mono ?_
    rintro e w' ⟨rfl, rfl⟩
    exact ⟨rfl, did_refl_s h⟩
  | false =>
    have hl := h.cont.1
    have hr := h.rlen
    by_cases hf : L.length = room
    · refine (send_full_s h hf x).mono ?_
      rintro e w' ⟨rfl, n, rfl⟩
      exact ⟨by simp [sendCode, hf], by simp only [sendL, hf, if_true, Bool.false_eq_true, if_false]; exact did_drewN_s h n⟩
    · have hgoal : ∀ (e : Ending) (w' : World), e = .returned (.int .i64 0) ∧ Did_s w c g room false (L ++ [.string x]) w' → e = .returned (.int .i64 (sendCode false L.length room)) ∧ Did_s w c g room false (sendL false L room (.string x)) w' := fun e w' h => by
        simpa [sendCode, sendL, hf] using h
      by_cases hr2 : L.length < R.length
      · exact (send_fit_s h hr2 x).mono hgoal
      · rcases h.ring with ⟨rfl, rfl, -⟩ | ⟨k, rfl, -, -⟩
        · exact (send_grown_s h (by simpa using hl) (by have := h.room1; omega) x).mono hgoal
        · exact (send_grows_s h (by omega) (by omega) x).mono hgoal

theorem recv_empty_s {w : World} {c : Nat} {g : Option Nat} {R : List Value} {a room : Nat} {closed : Bool} (h : Ch_s w c g R a room closed []) :
    Calls Try.prog 15 #[.pointer (some ⟨c, 0, none⟩)] w fun e w' => e = .returned (.tuple #[.string ⟨#[]⟩, .int .i64 (recvCode closed [])]) ∧ w = w' := by
  have c4 : w.cell? ⟨c, 4, none⟩ = some (.bool closed) := cells_at h.cell 4
  have c2 : w.cell? ⟨c, 2, none⟩ = some (.int .i64 0) := cells_at h.cell 2
  cases closed with
  | true =>
    go_enter Try.func15, Try.ntmps15
    go_wp2
    go_ret2
    exact ⟨rfl, rfl⟩
  | false =>
    go_enter Try.func15, Try.ntmps15
    go_wp2
    go_ret2
    exact ⟨rfl, rfl⟩

theorem recv_some_s {w : World} {c : Nat} {g : Option Nat} {R : List Value} {a room : Nat} {closed : Bool} {x : ByteArray} {L : List Value} (h : Ch_s w c g R a room closed (.string x :: L)) :
    Calls Try.prog 15 #[.pointer (some ⟨c, 0, none⟩)] w fun e w' => e = .returned (.tuple #[.string x, .int .i64 0]) ∧ Did_s w c g room closed L w' := by
  have hl := h.cont.1
  have hr := h.rlen
  have hr2 := h.room2
  simp only [List.length_cons] at hl
  obtain ⟨k, rfl, hk, ha⟩ : ∃ k, g = some k ∧ w.heap[k]? = some (.cells R.toArray 9 (0, 0)) ∧ a < R.length := by
    rcases h.ring with ⟨-, rfl, -⟩ | h
    · simp at hl
    · exact h
  obtain ⟨hx, hcont⟩ := cont_recv h.cont ha (.string ⟨#[]⟩)
  have hcell := h.cell
  simp only [List.length_cons, ringv] at hcell
  have hck : c ≠ k := by rintro rfl; rw [hk] at hcell; simp at hcell
  have c2 : w.cell? ⟨c, 2, none⟩ = some (.int .i64 (L.length + 1)) := cells_at hcell 2
  have c1 : w.cell? ⟨c, 1, none⟩ = some (.int .i64 a) := cells_at hcell 1
  have c0 : w.cell? ⟨c, 0, none⟩ = some (.slice (some ⟨k, 0, none⟩) R.length R.length) := cells_at hcell 0
  have cx : w.cell? ⟨k, a, none⟩ = some (.string x) := (cells_at hk a).trans (by simpa using hx)
  have H := hidp h
  have HK := hidp hk
  have HC := hidp hcell
  have HX := hidp hx
  have HCONT := hidp hcont
  have HCK := hidp hck
  clear h hk hcell hx hcont hck
  go_enter Try.func15, Try.ntmps15
  go_wp2
  go_quiet (fail)
  go_wp2
  -- region 4
  obtain ⟨W1, hW1⟩ : ∃ W1, W1 = w.drewN nq := ⟨_, rfl⟩
  rw [← hW1]
  have K1 : Keeps (fun _ => False) w W1 := hW1 ▸ keeps_drewN (Keeps.refl _ _) _
  have hc1 := (K1.block c (Array.getElem?_eq_some_iff.1 HC.out).1 (by simp)).trans HC.out
  have hk1 := (K1.block k (Array.getElem?_eq_some_iff.1 HK.out).1 (by simp)).trans HK.out
  clear hW1 c0 c1 c2 cx
  have c1 : W1.cell? ⟨c, 1, none⟩ = some (.int .i64 a) := cells_at hc1 1
  have c0 : W1.cell? ⟨c, 0, none⟩ = some (.slice (some ⟨k, 0, none⟩) R.length R.length) := cells_at hc1 0
  have HC1 := hidp hc1
  have HK1 := hidp hk1
  clear hc1 hk1
  go_still_tail 9, (by kernel_rfl)
  change wpList _ _ _ _ _ W1.drew
  obtain ⟨W2, hW2⟩ : ∃ W2, W2 = W1.drew := ⟨_, rfl⟩
  rw [← hW2]
  have hh : W2.heap = W1.heap := by rw [hW2]; rfl
  have K2 : Keeps (fun i => i = c ∨ some i = some k) w W2 := (hW2 ▸ K1.drew : Keeps (fun _ => False) w W2).mono (fun _ _ h => h.elim)
  have hc2 := HC1.out
  have hk2 := HK1.out
  rw [← hh] at hc2 hk2
  clear hW2 hh HC1 HK1 K1 c0 c1
  have cx : W2.cell? ⟨k, a, none⟩ = some (.string x) := (cells_at hk2 a).trans (by simpa using HX.out)
  have fx := free_at hk2 a
  have HC2 := hidp hc2
  have HK2 := hidp hk2
  clear hc2 hk2
  go_wp2
  -- region 5
  obtain ⟨W3, hW3⟩ : ∃ W3, W3 = W2.setCell ⟨k, a, none⟩ (.string ⟨#[]⟩) := ⟨_, rfl⟩
  rw [← hW3]
  have K3 : Keeps (fun i => i = c ∨ some i = some k) w W3 := hW3 ▸ K2.setCell (.inl (.inr rfl)) _
  have hk3 := setCell_block HK2.out a (.string ⟨#[]⟩)
  have hc3 := (Below.heap_setCell W2 ⟨k, a, none⟩ (.string ⟨#[]⟩) c HCK.out).trans HC2.out
  rw [← hW3] at hk3 hc3
  clear hW3 K2 HC2 HK2 cx fx
  have c1 : W3.cell? ⟨c, 1, none⟩ = some (.int .i64 a) := cells_at hc3 1
  have c0 : W3.cell? ⟨c, 0, none⟩ = some (.slice (some ⟨k, 0, none⟩) R.length R.length) := cells_at hc3 0
  have HC3 := hidp hc3
  have HK3 := hidp hk3
  clear hc3 hk3
  have hw : IntKind.i64.wrap ((a : Int) + 1) = (a : Int) + 1 := IntWalk.i64_in _ (by omega)
  obtain ⟨p, hp⟩ : ∃ p, p = (a + 1) % R.length := ⟨_, rfl⟩
  have hpl : p < R.length := hp ▸ Nat.mod_lt _ (by omega)
  have hrem : ((a : Int) + 1).tmod R.length = p := tmod_nat (a := a + 1) (by omega) hp
  have hR0 : ¬ R = [] := by intro e; rw [e] at hpl; simp at hpl
  have HP := hidp hp
  clear hp
  go_still_tail 14, (by kernel_rfl)
  change wpList _ _ _ _ _ W3.drew
  obtain ⟨W4, hW4⟩ : ∃ W4, W4 = W3.drew := ⟨_, rfl⟩
  rw [← hW4]
  have hh : W4.heap = W3.heap := by rw [hW4]; rfl
  have K4 : Keeps (fun i => i = c ∨ some i = some k) w W4 := hW4 ▸ K3.drew
  have hc4 := HC3.out
  have hk4 := HK3.out
  rw [← hh] at hc4 hk4
  clear hW4 hh HC3 HK3 K3 c0 c1 hw hrem hR0
  have c1 : W4.cell? ⟨c, 1, none⟩ = some (.int .i64 a) := cells_at hc4 1
  have f1 := free_at hc4 1
  have c2 : W4.cell? ⟨c, 2, none⟩ = some (.int .i64 (L.length + 1)) := cells_at hc4 2
  have f2 := free_at hc4 2
  have hfin : Did_s w c (some k) room closed L ((W4.setCell ⟨c, 1, none⟩ (.int .i64 p)).setCell ⟨c, 2, none⟩ (.int .i64 L.length)) := by
    refine ⟨some k, R.set a (.string ⟨#[]⟩), p, ⟨?_, .inr ⟨k, rfl, ?_, by simpa using hpl⟩, ?_, ?_, by simpa using hr, H.out.room1, H.out.room2⟩, .inl rfl, (K4.setCell (.inl (.inl rfl)) _).setCell (.inl (.inl rfl)) _⟩
    · rw [setCell_block (setCell_block hc4 _ _)]; simp [ringv]
    · rw [Below.heap_setCell _ _ _ _ (Ne.symm HCK.out), Below.heap_setCell _ _ _ _ (Ne.symm HCK.out), hk4]; simp
    · intro v hv
      rcases List.mem_or_eq_of_mem_set hv with hv | rfl
      · exact H.out.els v hv
      · exact ⟨_, rfl⟩
    · have := HCONT.out; rw [← HP.out] at this; exact this
  have HF := hidp hfin
  clear hfin K4 hc4 hk4 HCONT HP H HCK HC HK HX
  go_wp2
  go_ret2
  exact ⟨rfl, HF.out⟩

/-- Recv: the first one, or what is told where there is none. -/
theorem recv_s {w : World} {c : Nat} {g : Option Nat} {R : List Value} {a room : Nat} {closed : Bool} {L : List Value} (h : Ch_s w c g R a room closed L) :
    Calls Try.prog 15 #[.pointer (some ⟨c, 0, none⟩)] w fun e w' => e = .returned (.tuple #[L.headD (.string ⟨#[]⟩), .int .i64 (recvCode closed L)]) ∧ Did_s w c g room closed L.tail w' := by
  cases L with
  | nil =>
    refine (recv_empty_s h).mono ?_
    rintro e w' ⟨rfl, rfl⟩
    exact ⟨rfl, did_refl_s h⟩
  | cons v L =>
    have hl := h.cont
    have hv : el_s v := by
      have h0 := hl.2 0 (by simp)
      simp only [Nat.add_zero, List.getElem?_cons_zero] at h0
      exact h.els v (List.mem_of_getElem? h0)
    obtain ⟨x, rfl⟩ := hv
    exact recv_some_s h

theorem did_refl_i {w : World} {c : Nat} {g : Option Nat} {R : List Value} {a room : Nat} {closed : Bool} {L : List Value} (h : Ch_i w c g R a room closed L) : Did_i w c g room closed L w :=
  ⟨g, R, a, h, .inl rfl, Keeps.refl _ _⟩

theorem did_drewN_i {w : World} {c : Nat} {g : Option Nat} {R : List Value} {a room : Nat} {closed : Bool} {L : List Value} (h : Ch_i w c g R a room closed L) (n : Nat) : Did_i w c g room closed L (w.drewN n) :=
  ⟨g, R, a, h.keep (keeps_drewN (Keeps.refl (fun _ => False) w) n) (by simp) (by simp), .inl rfl, keeps_drewN (Keeps.refl _ _) _⟩

theorem send_i {w : World} {c : Nat} {g : Option Nat} {R : List Value} {a room : Nat} {closed : Bool} {L : List Value} (h : Ch_i w c g R a room closed L) (x : Int) :
    Calls Try.prog 19 #[.pointer (some ⟨c, 0, none⟩), .int .i64 x] w fun e w' => e = .returned (.int .i64 (sendCode closed L.length room)) ∧ Did_i w c g room closed (sendL closed L room (.int .i64 x)) w' := by
  cases closed with
  | true =>
    refine (send_closed_i h x).mono ?_
    rintro e w' ⟨rfl, rfl⟩
    exact ⟨rfl, did_refl_i h⟩
  | false =>
    have hl := h.cont.1
    have hr := h.rlen
    by_cases hf : L.length = room
    · refine (send_full_i h hf x).mono ?_
      rintro e w' ⟨rfl, n, rfl⟩
      exact ⟨by simp [sendCode, hf], by simp only [sendL, hf, if_true, Bool.false_eq_true, if_false]; exact did_drewN_i h n⟩
    · have hgoal : ∀ (e : Ending) (w' : World), e = .returned (.int .i64 0) ∧ Did_i w c g room false (L ++ [.int .i64 x]) w' → e = .returned (.int .i64 (sendCode false L.length room)) ∧ Did_i w c g room false (sendL false L room (.int .i64 x)) w' := fun e w' h => by
        simpa [sendCode, sendL, hf] using h
      by_cases hr2 : L.length < R.length
      · exact (send_fit_i h hr2 x).mono hgoal
      · rcases h.ring with ⟨rfl, rfl, -⟩ | ⟨k, rfl, -, -⟩
        · exact (send_grown_i h (by simpa using hl) (by have := h.room1; omega) x).mono hgoal
        · exact (send_grows_i h (by omega) (by omega) x).mono hgoal

theorem recv_empty_i {w : World} {c : Nat} {g : Option Nat} {R : List Value} {a room : Nat} {closed : Bool} (h : Ch_i w c g R a room closed []) :
    Calls Try.prog 21 #[.pointer (some ⟨c, 0, none⟩)] w fun e w' => e = .returned (.tuple #[.int .i64 0, .int .i64 (recvCode closed [])]) ∧ w = w' := by
  have c4 : w.cell? ⟨c, 4, none⟩ = some (.bool closed) := cells_at h.cell 4
  have c2 : w.cell? ⟨c, 2, none⟩ = some (.int .i64 0) := cells_at h.cell 2
  cases closed with
  | true =>
    go_enter Try.func21, Try.ntmps21
    go_wp2
    go_ret2
    exact ⟨rfl, rfl⟩
  | false =>
    go_enter Try.func21, Try.ntmps21
    go_wp2
    go_ret2
    exact ⟨rfl, rfl⟩

theorem recv_some_i {w : World} {c : Nat} {g : Option Nat} {R : List Value} {a room : Nat} {closed : Bool} {x : Int} {L : List Value} (h : Ch_i w c g R a room closed (.int .i64 x :: L)) :
    Calls Try.prog 21 #[.pointer (some ⟨c, 0, none⟩)] w fun e w' => e = .returned (.tuple #[.int .i64 x, .int .i64 0]) ∧ Did_i w c g room closed L w' := by
  have hl := h.cont.1
  have hr := h.rlen
  have hr2 := h.room2
  simp only [List.length_cons] at hl
  obtain ⟨k, rfl, hk, ha⟩ : ∃ k, g = some k ∧ w.heap[k]? = some (.cells R.toArray 3 (0, 0)) ∧ a < R.length := by
    rcases h.ring with ⟨-, rfl, -⟩ | h
    · simp at hl
    · exact h
  obtain ⟨hx, hcont⟩ := cont_recv h.cont ha (.int .i64 0)
  have hcell := h.cell
  simp only [List.length_cons, ringv] at hcell
  have hck : c ≠ k := by rintro rfl; rw [hk] at hcell; simp at hcell
  have c2 : w.cell? ⟨c, 2, none⟩ = some (.int .i64 (L.length + 1)) := cells_at hcell 2
  have c1 : w.cell? ⟨c, 1, none⟩ = some (.int .i64 a) := cells_at hcell 1
  have c0 : w.cell? ⟨c, 0, none⟩ = some (.slice (some ⟨k, 0, none⟩) R.length R.length) := cells_at hcell 0
  have cx : w.cell? ⟨k, a, none⟩ = some (.int .i64 x) := (cells_at hk a).trans (by simpa using hx)
  have H := hidp h
  have HK := hidp hk
  have HC := hidp hcell
  have HX := hidp hx
  have HCONT := hidp hcont
  have HCK := hidp hck
  clear h hk hcell hx hcont hck
  go_enter Try.func21, Try.ntmps21
  go_wp2
  go_quiet (fail)
  go_wp2
  -- region 4
  obtain ⟨W1, hW1⟩ : ∃ W1, W1 = w.drewN nq := ⟨_, rfl⟩
  rw [← hW1]
  have K1 : Keeps (fun _ => False) w W1 := hW1 ▸ keeps_drewN (Keeps.refl _ _) _
  have hc1 := (K1.block c (Array.getElem?_eq_some_iff.1 HC.out).1 (by simp)).trans HC.out
  have hk1 := (K1.block k (Array.getElem?_eq_some_iff.1 HK.out).1 (by simp)).trans HK.out
  clear hW1 c0 c1 c2 cx
  have c1 : W1.cell? ⟨c, 1, none⟩ = some (.int .i64 a) := cells_at hc1 1
  have c0 : W1.cell? ⟨c, 0, none⟩ = some (.slice (some ⟨k, 0, none⟩) R.length R.length) := cells_at hc1 0
  have HC1 := hidp hc1
  have HK1 := hidp hk1
  clear hc1 hk1
  go_still_tail 9, (by kernel_rfl)
  change wpList _ _ _ _ _ W1.drew
  obtain ⟨W2, hW2⟩ : ∃ W2, W2 = W1.drew := ⟨_, rfl⟩
  rw [← hW2]
  have hh : W2.heap = W1.heap := by rw [hW2]; rfl
  have K2 : Keeps (fun i => i = c ∨ some i = some k) w W2 := (hW2 ▸ K1.drew : Keeps (fun _ => False) w W2).mono (fun _ _ h => h.elim)
  have hc2 := HC1.out
  have hk2 := HK1.out
  rw [← hh] at hc2 hk2
  clear hW2 hh HC1 HK1 K1 c0 c1
  have cx : W2.cell? ⟨k, a, none⟩ = some (.int .i64 x) := (cells_at hk2 a).trans (by simpa using HX.out)
  have fx := free_at hk2 a
  have HC2 := hidp hc2
  have HK2 := hidp hk2
  clear hc2 hk2
  go_wp2
  -- region 5
  obtain ⟨W3, hW3⟩ : ∃ W3, W3 = W2.setCell ⟨k, a, none⟩ (.int .i64 0) := ⟨_, rfl⟩
  rw [← hW3]
  have K3 : Keeps (fun i => i = c ∨ some i = some k) w W3 := hW3 ▸ K2.setCell (.inl (.inr rfl)) _
  have hk3 := setCell_block HK2.out a (.int .i64 0)
  have hc3 := (Below.heap_setCell W2 ⟨k, a, none⟩ (.int .i64 0) c HCK.out).trans HC2.out
  rw [← hW3] at hk3 hc3
  clear hW3 K2 HC2 HK2 cx fx
  have c1 : W3.cell? ⟨c, 1, none⟩ = some (.int .i64 a) := cells_at hc3 1
  have c0 : W3.cell? ⟨c, 0, none⟩ = some (.slice (some ⟨k, 0, none⟩) R.length R.length) := cells_at hc3 0
  have HC3 := hidp hc3
  have HK3 := hidp hk3
  clear hc3 hk3
  have hw : IntKind.i64.wrap ((a : Int) + 1) = (a : Int) + 1 := IntWalk.i64_in _ (by omega)
  obtain ⟨p, hp⟩ : ∃ p, p = (a + 1) % R.length := ⟨_, rfl⟩
  have hpl : p < R.length := hp ▸ Nat.mod_lt _ (by omega)
  have hrem : ((a : Int) + 1).tmod R.length = p := tmod_nat (a := a + 1) (by omega) hp
  have hR0 : ¬ R = [] := by intro e; rw [e] at hpl; simp at hpl
  have HP := hidp hp
  clear hp
  go_still_tail 14, (by kernel_rfl)
  change wpList _ _ _ _ _ W3.drew
  obtain ⟨W4, hW4⟩ : ∃ W4, W4 = W3.drew := ⟨_, rfl⟩
  rw [← hW4]
  have hh : W4.heap = W3.heap := by rw [hW4]; rfl
  have K4 : Keeps (fun i => i = c ∨ some i = some k) w W4 := hW4 ▸ K3.drew
  have hc4 := HC3.out
  have hk4 := HK3.out
  rw [← hh] at hc4 hk4
  clear hW4 hh HC3 HK3 K3 c0 c1 hw hrem hR0
  have c1 : W4.cell? ⟨c, 1, none⟩ = some (.int .i64 a) := cells_at hc4 1
  have f1 := free_at hc4 1
  have c2 : W4.cell? ⟨c, 2, none⟩ = some (.int .i64 (L.length + 1)) := cells_at hc4 2
  have f2 := free_at hc4 2
  have hfin : Did_i w c (some k) room closed L ((W4.setCell ⟨c, 1, none⟩ (.int .i64 p)).setCell ⟨c, 2, none⟩ (.int .i64 L.length)) := by
    refine ⟨some k, R.set a (.int .i64 0), p, ⟨?_, .inr ⟨k, rfl, ?_, by simpa using hpl⟩, ?_, ?_, by simpa using hr, H.out.room1, H.out.room2⟩, .inl rfl, (K4.setCell (.inl (.inl rfl)) _).setCell (.inl (.inl rfl)) _⟩
    · rw [setCell_block (setCell_block hc4 _ _)]; simp [ringv]
    · rw [Below.heap_setCell _ _ _ _ (Ne.symm HCK.out), Below.heap_setCell _ _ _ _ (Ne.symm HCK.out), hk4]; simp
    · intro v hv
      rcases List.mem_or_eq_of_mem_set hv with hv | rfl
      · exact H.out.els v hv
      · exact ⟨_, rfl⟩
    · have := HCONT.out; rw [← HP.out] at this; exact this
  have HF := hidp hfin
  clear hfin K4 hc4 hk4 HCONT HP H HCK HC HK HX
  go_wp2
  go_ret2
  exact ⟨rfl, HF.out⟩

/-- Recv: the first one, or what is told where there is none. -/
theorem recv_i {w : World} {c : Nat} {g : Option Nat} {R : List Value} {a room : Nat} {closed : Bool} {L : List Value} (h : Ch_i w c g R a room closed L) :
    Calls Try.prog 21 #[.pointer (some ⟨c, 0, none⟩)] w fun e w' => e = .returned (.tuple #[L.headD (.int .i64 0), .int .i64 (recvCode closed L)]) ∧ Did_i w c g room closed L.tail w' := by
  cases L with
  | nil =>
    refine (recv_empty_i h).mono ?_
    rintro e w' ⟨rfl, rfl⟩
    exact ⟨rfl, did_refl_i h⟩
  | cons v L =>
    have hl := h.cont
    have hv : el_i v := by
      have h0 := hl.2 0 (by simp)
      simp only [Nat.add_zero, List.getElem?_cons_zero] at h0
      exact h.els v (List.mem_of_getElem? h0)
    obtain ⟨x, rfl⟩ := hv
    exact recv_some_i h
end Go.Proofs.Ytmnciedkkceiaaa
