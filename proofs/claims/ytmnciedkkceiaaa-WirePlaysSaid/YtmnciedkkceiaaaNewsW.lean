/- What the document fixes (awake), and the walk of WireNews. -/
import Derived.Test.YtmnciedkkceiaaaChan2
import Derived.Test.YtmnciedkkceiaaaOpen
namespace Go.Proofs.Ytmnciedkkceiaaa
open Go.RowKit Go.Pairs

theorem below_of {w w' : World} (h : Keeps (fun _ => False) w w') : Below w.heap.size w w' := h.below (Nat.le_refl _) (by simp)

/-- a channel whose blocks are new since w0; all else is as it was. -/
def Live_s (w0 : World) (c room : Nat) (closed : Bool) (L : List Value) (w : World) : Prop :=
  ∃ g R a, Ch_s w c g R a room closed L ∧ w0.heap.size ≤ c ∧ (∀ k, g = some k → w0.heap.size ≤ k) ∧ Keeps (fun _ => False) w0 w

theorem live_s_step {w0 w w' : World} {c room : Nat} {g : Option Nat} {closed' : Bool} {L' : List Value} (hc : w0.heap.size ≤ c) (hg : ∀ k, g = some k → w0.heap.size ≤ k) (hK : Keeps (fun _ => False) w0 w)
    (hD : Did_s w c g room closed' L' w') : Live_s w0 c room closed' L' w' := by
  obtain ⟨g', R', a', C', hg', K'⟩ := hD
  refine ⟨g', R', a', C', hc, ?_, hK.then_ K' (fun i hi h => ?_)⟩
  · intro k hk
    rcases hg' with rfl | ⟨k', rfl, h⟩
    · exact hg k hk
    · have := hK.size; simp at hk; omega
  · rcases h with h | h
    · omega
    · have := hg i h.symm; omega

theorem live_send {w0 w : World} {c room : Nat} {closed : Bool} {L : List Value} (h : Live_s w0 c room closed L w) (x : ByteArray) :
    Calls Try.prog 12 #[.pointer (some ⟨c, 0, none⟩), .string x] w fun e w' => e = .returned (.int .i64 (sendCode closed L.length room)) ∧ Live_s w0 c room closed (sendL closed L room (.string x)) w' := by
  obtain ⟨g, R, a, C, hc, hg, hK⟩ := h
  refine (send_s C x).mono ?_
  rintro e w' ⟨rfl, hD⟩
  exact ⟨rfl, live_s_step hc hg hK hD⟩

theorem live_recv {w0 w : World} {c room : Nat} {closed : Bool} {L : List Value} (h : Live_s w0 c room closed L w) :
    Calls Try.prog 15 #[.pointer (some ⟨c, 0, none⟩)] w fun e w' => e = .returned (.tuple #[L.headD (.string ⟨#[]⟩), .int .i64 (recvCode closed L)]) ∧ Live_s w0 c room closed L.tail w' := by
  obtain ⟨g, R, a, C, hc, hg, hK⟩ := h
  refine (recv_s C).mono ?_
  rintro e w' ⟨rfl, hD⟩
  exact ⟨rfl, live_s_step hc hg hK hD⟩

theorem live_len {w0 w : World} {c room : Nat} {closed : Bool} {L : List Value} (h : Live_s w0 c room closed L w) :
    Calls Try.prog 14 #[.pointer (some ⟨c, 0, none⟩)] w fun e w' => e = .returned (.int .i64 L.length) ∧ w = w' := by
  obtain ⟨g, R, a, C, hc, hg, hK⟩ := h
  exact len_s C

theorem live_room {w0 w : World} {c room : Nat} {closed : Bool} {L : List Value} (h : Live_s w0 c room closed L w) :
    Calls Try.prog 13 #[.pointer (some ⟨c, 0, none⟩)] w fun e w' => e = .returned (.int .i64 ((room : Int) - L.length)) ∧ ∃ n, w' = w.drewN n := by
  obtain ⟨g, R, a, C, hc, hg, hK⟩ := h
  exact room_s C

theorem Live_s.drewN {w0 w : World} {c room : Nat} {closed : Bool} {L : List Value} (h : Live_s w0 c room closed L w) (n : Nat) : Live_s w0 c room closed L (w.drewN n) := by
  obtain ⟨g, R, a, C, hc, hg, hK⟩ := h
  exact ⟨g, R, a, C.keep (keeps_drewN (Keeps.refl (fun _ => False) w) n) (by simp) (by simp), hc, hg, keeps_drewN hK n⟩

theorem Live_s.keeps {w0 w : World} {c room : Nat} {closed : Bool} {L : List Value} (h : Live_s w0 c room closed L w) : Keeps (fun _ => False) w0 w := by
  obtain ⟨g, R, a, C, hc, hg, hK⟩ := h
  exact hK

theorem awake_any (w : World) : Calls Try.prog 10 #[] w fun e w' => e = .returned (.bool true) ∧ Keeps (fun _ => False) w w' := by
  go_enter Try.func10, Try.ntmps10
  go_wp2_with fail
  refine (newok_s w 2 (by omega) (by omega)).mono ?_
  rintro e w1 ⟨rfl, C1, K1, hsz⟩
  have L1 : Live_s w w.heap.size 2 false [] w1 := ⟨_, _, _, C1, Nat.le_refl _, by simp, K1⟩
  clear C1 K1 hsz
  go_wp2_with fail
  have h : Calls Try.prog 12 #[.pointer (some ⟨w.heap.size, 0, none⟩), .string ⟨#[97]⟩] w1 fun e w' => e = .returned (.int .i64 0) ∧ Live_s w w.heap.size 2 false [.string ⟨#[97]⟩] w' := live_send L1 ⟨#[97]⟩
  refine h.mono ?_
  clear h
  rintro e w2 ⟨rfl, L2⟩
  clear L1
  go_wp2_with fail
  have h : Calls Try.prog 12 #[.pointer (some ⟨w.heap.size, 0, none⟩), .string ⟨#[98]⟩] w2 fun e w' => e = .returned (.int .i64 0) ∧ Live_s w w.heap.size 2 false [.string ⟨#[97]⟩, .string ⟨#[98]⟩] w' := live_send L2 ⟨#[98]⟩
  refine h.mono ?_
  clear h
  rintro e w3 ⟨rfl, L3⟩
  clear L2
  go_wp2_with fail
  have h : Calls Try.prog 12 #[.pointer (some ⟨w.heap.size, 0, none⟩), .string ⟨#[99]⟩] w3 fun e w' => e = .returned (.int .i64 100) ∧ Live_s w w.heap.size 2 false [.string ⟨#[97]⟩, .string ⟨#[98]⟩] w' := live_send L3 ⟨#[99]⟩
  refine h.mono ?_
  clear h
  rintro e w4 ⟨rfl, L4⟩
  clear L3
  go_wp2_with fail
  have h : Calls Try.prog 15 #[.pointer (some ⟨w.heap.size, 0, none⟩)] w4 fun e w' => e = .returned (.tuple #[.string ⟨#[97]⟩, .int .i64 0]) ∧ Live_s w w.heap.size 2 false [.string ⟨#[98]⟩] w' := live_recv L4
  refine h.mono ?_
  clear h
  rintro e w5 ⟨rfl, L5⟩
  clear L4
  have hlen : Calls Try.prog 14 #[.pointer (some ⟨w.heap.size, 0, none⟩)] w5 fun e w' => e = .returned (.int .i64 1) ∧ w5 = w' := live_len L5
  have hroom : Calls Try.prog 13 #[.pointer (some ⟨w.heap.size, 0, none⟩)] w5 fun e w' => e = .returned (.int .i64 1) ∧ ∃ n, w' = w5.drewN n := live_room L5
  have HK := hidp L5.keeps
  clear L5
  go_wp2_with (first | (go_at_call 14; refine hlen.mono ?_; rintro e w' ⟨rfl, rfl⟩) | (go_at_call 13; refine hroom.mono ?_; rintro e w' ⟨rfl, n, rfl⟩))
  go_ret
  exact ⟨rfl, keeps_drewN HK.out _⟩

theorem refnew_ok (w : World) (room : Int) (h1 : 1 ≤ room) (h2 : room ≤ 65536) :
    Calls Try.prog 7 #[.int .i64 room] w fun e w' => e = .returned (.tuple #[.pointer (some ⟨w.heap.size, 0, none⟩), .int .i64 0]) ∧ w' = w.alloc (.cells #[.slice none 0 0, .int .i64 room, .bool false] 59) := by
  go_enter Try.func7, Try.ntmps7
  go_wp2
  go_ret2
  exact ⟨rfl, rfl⟩

theorem refnew_no (w : World) (room : Int) (h : room < 1 ∨ 65536 < room) :
    Calls Try.prog 7 #[.int .i64 room] w fun e w' => e = .returned (.tuple #[.pointer none, .int .i64 1]) ∧ w = w' := by
  rcases (show room < 1 ∨ (1 ≤ room ∧ 65536 < room) by omega) with h | ⟨h, h'⟩
  all_goals
    go_enter Try.func7, Try.ntmps7
    go_wp2
    go_ret2
    exact ⟨rfl, rfl⟩

theorem wireNews_walk (w : World) (room : Int) (_wr : (Lit.int .i64 room).wf = true) :
    Calls Try.prog 3 #[.int .i64 room] w fun e w' => e = .returned (.bool true) ∧ Below w.heap.size w w' := by
  by_cases h : 1 ≤ room ∧ room ≤ 65536
  · obtain ⟨h1, h2⟩ := h
    go_enter Try.func3, Try.ntmps3
    go_wp2_with fail
    refine (newok_i w room h1 h2).mono ?_
    rintro e w1 ⟨rfl, C1, K1, hsz⟩
    go_wp2_with fail
    refine (refnew_ok w1 room h1 h2).mono ?_
    rintro e w2 ⟨rfl, hw2⟩
    have K2 : Keeps (fun _ => False) w1 w2 := hw2 ▸ (Keeps.refl _ _).alloc _
    have C2 := C1.keep K2 (by simp) (by simp)
    have KK := K1.trans K2
    have hlen := len_i C2
    have hroom := room_i C2
    have hz : ((room.toNat : Int) - (([] : List Value).length : Int)) = room := by simp; omega
    rw [hz] at hroom
    replace hlen : Calls Try.prog 8 #[.pointer (some ⟨w.heap.size, 0, none⟩)] w2 fun e w' => e = .returned (.int .i64 0) ∧ w2 = w' := hlen
    clear hw2 K2 C2 K1 C1 hsz hz
    go_wp2_with (first | (go_at_call 8; refine hlen.mono ?_; rintro e w' ⟨rfl, rfl⟩) | (go_at_call 9; refine hroom.mono ?_; rintro e w' ⟨rfl, n, rfl⟩) | (go_at_call 10; refine (awake_any _).mono ?_; rintro e w3 ⟨rfl, K3⟩))
    go_ret
    exact ⟨rfl, below_of ((keeps_drewN KK n).trans K3)⟩
  · have h' : room < 1 ∨ 65536 < room := by omega
    have HH := hidp h'
    clear h h'
    go_enter Try.func3, Try.ntmps3
    go_wp2_with fail
    refine (newno_i w room HH.out).mono ?_
    rintro e w1 ⟨rfl, rfl⟩
    go_wp2_with fail
    refine (refnew_no w room HH.out).mono ?_
    rintro e w2 ⟨rfl, rfl⟩
    go_wp2_with (go_at_call 10; refine (awake_any _).mono ?_; rintro e w3 ⟨rfl, K3⟩)
    go_ret
    exact ⟨rfl, below_of K3⟩
end Go.Proofs.Ytmnciedkkceiaaa
