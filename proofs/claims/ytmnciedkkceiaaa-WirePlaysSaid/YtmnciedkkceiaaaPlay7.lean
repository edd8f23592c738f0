/- WirePlays: the two channels asked one behind the other. -/
import Derived.Test.YtmnciedkkceiaaaPlay5
namespace Go.Proofs.Ytmnciedkkceiaaa
open Go.RowKit Go.Pairs

theorem ints_len (L : List Int) : (ints L).length = L.length := by simp [ints]
def sendI (b : Bool) (L : List Int) (room : Nat) (x : Int) : List Int := if b then L else if L.length = room then L else L ++ [x]
theorem sendL_ints (b : Bool) (L : List Int) (room : Nat) (x : Int) : sendL b (ints L) room (.int .i64 x) = ints (sendI b L room x) := by
  unfold sendL sendI
  rw [ints_len]
  cases b
  · by_cases h : L.length = room
    · simp [h]
    · simp [h, ints]
  · simp
theorem did_drew {w w' : World} {c : Nat} {g : Option Nat} {room : Nat} {cl : Bool} {L : List Value} (h : Did_i w.drew c g room cl L w') : Did_i w c g room cl L w' :=
  let ⟨g', R', a', h1, h2, h3⟩ := h; ⟨g', R', a', h1, h2, ⟨h3.os, h3.tape, h3.output, h3.size, h3.block⟩⟩
theorem hd_ints (L : List Int) : (ints L).headD (.int .i64 0) = .int .i64 (L.headD 0) := by cases L <;> rfl
theorem close_i {w : World} {c : Nat} {g : Option Nat} {R : List Value} {a room : Nat} {closed : Bool} {L : List Value} (h : Ch_i w c g R a room closed L) :
    Calls Try.prog 23 #[.pointer (some ⟨c, 0, none⟩)] w fun e w' => e = .returned (.int .i64 (if closed then 102 else 0)) ∧ Did_i w c g room true L w' := by
  cases closed with
  | true =>
    refine (close_yes_i h).mono ?_
    rintro e w' ⟨rfl, rfl⟩
    exact ⟨rfl, did_refl_i h⟩
  | false => exact (close_no_i h).mono fun e w' hh => hh

section
variable {w0 w : World} {n : Nat} {D : Dir} {S : Sit} {k c d room : Nat} {g g2 lc wc2 : Nat}
/-- what is known at each stop: the two rows, the operations' blocks, the state. -/
def At7 (w0 : World) (n : Nat) (D : Dir) (g g2 lc wc2 k c d : Nat) (w w' : World) (Sp Sr : Sit) : Prop :=
  (w'.cell? ⟨g, k, none⟩ = some (.pointer (some ⟨c, 0, none⟩)) ∧ w'.cell? ⟨g2, k, none⟩ = some (.pointer (some ⟨d, 0, none⟩))) ∧ Keep46 w w' ∧ Sta w0 w' n (.slice (some ⟨g, 0, none⟩) n lc) (pvals D n) (.slice (some ⟨g2, 0, none⟩) n wc2) (qvals D n) D Sp Sr

theorem at7 {w' : World} {Sp Sr : Sit} (hk : k < n) (hD : D k = some (c, d, room)) (h : Sta w0 w' n (.slice (some ⟨g, 0, none⟩) n lc) (pvals D n) (.slice (some ⟨g2, 0, none⟩) n wc2) (qvals D n) D Sp Sr) (h46 : Keep46 w w') : At7 w0 n D g g2 lc wc2 k c d w w' Sp Sr := by
  have hpv : pv D k = .pointer (some ⟨c, 0, none⟩) := by unfold pv; rw [hD]
  have hqv : qv D k = .pointer (some ⟨d, 0, none⟩) := by unfold qv; rw [hD]
  obtain ⟨g3, c3, g4, c4, e1, e2, h5⟩ := h.cells (by omega : 0 < n)
  obtain ⟨rfl, -⟩ : g = g3 ∧ _ := by simpa using e1
  obtain ⟨rfl, -⟩ : g2 = g4 ∧ _ := by simpa using e2
  have := h5 w' h k hk
  rw [hpv, hqv] at this
  exact ⟨this, h46, h⟩
theorem At7.three {w' : World} {Sp Sr : Sit} {ob : Nat} {u v x : Value} (h : At7 w0 n D g g2 lc wc2 k c d w w' Sp Sr) (ho : w.heap[ob]? = some (.cells #[u, v, x] 46 (0, 0))) :
    w'.cell? ⟨g, k, none⟩ = some (.pointer (some ⟨c, 0, none⟩)) ∧ w'.cell? ⟨g2, k, none⟩ = some (.pointer (some ⟨d, 0, none⟩)) ∧ w'.cell? ⟨ob, 2, none⟩ = some x :=
  ⟨h.1.1, h.1.2, cells_at (h.2.1 _ _ _ ho) 2⟩
theorem At7.four {w' : World} {ob : Nat} {u v x : Value} (h : ∃ S2, At7 w0 n D g g2 lc wc2 k c d w w' S2 S2) (ho : w.heap[ob]? = some (.cells #[u, v, x] 46 (0, 0))) :
    (w'.cell? ⟨g, k, none⟩ = some (.pointer (some ⟨c, 0, none⟩)) ∧ w'.cell? ⟨g2, k, none⟩ = some (.pointer (some ⟨d, 0, none⟩)) ∧ w'.cell? ⟨ob, 2, none⟩ = some x) ∧ ∃ S2, Sta w0 w' n (.slice (some ⟨g, 0, none⟩) n lc) (pvals D n) (.slice (some ⟨g2, 0, none⟩) n wc2) (qvals D n) D S2 S2 :=
  let ⟨S2, h⟩ := h; ⟨h.three ho, S2, h.2.2⟩
theorem At7.sta {w' : World} (h : ∃ S2, At7 w0 n D g g2 lc wc2 k c d w w' S2 S2) : ∃ S2, Sta w0 w' n (.slice (some ⟨g, 0, none⟩) n lc) (pvals D n) (.slice (some ⟨g2, 0, none⟩) n wc2) (qvals D n) D S2 S2 :=
  let ⟨S2, h⟩ := h; ⟨S2, h.2.2⟩

theorem both_send (h : Sta w0 w n (.slice (some ⟨g, 0, none⟩) n lc) (pvals D n) (.slice (some ⟨g2, 0, none⟩) n wc2) (qvals D n) D S S) (hk : k < n) (hD : D k = some (c, d, room)) (x : Int) :
    ∃ z, Calls Try.prog 19 #[.pointer (some ⟨c, 0, none⟩), .int .i64 x] w.drew fun e w1 => e = .returned (.int .i64 z) ∧ Hid (∃ S1, At7 w0 n D g g2 lc wc2 k c d w w1 S1 S ∧
      Calls Try.prog 20 #[.pointer (some ⟨d, 0, none⟩), .int .i64 x] w1 fun e w2 => e = .returned (.int .i64 z) ∧ Hid (∃ S2, At7 w0 n D g g2 lc wc2 k c d w w2 S2 S2)) := by
  obtain ⟨gg, R, a, hch, hnx⟩ := h.ch hk hD
  obtain ⟨bb, L, hbl⟩ : ∃ bb L, S k = (bb, L) := ⟨_, _, rfl⟩
  have CS := send_i (hch.keep (Keeps.drew (Keeps.refl (fun _ => False) w)) (by simp) (by simp)) x
  rw [hbl] at CS
  simp only [ints_len, sendL_ints] at CS
  refine ⟨sendCode bb L.length room, CS.mono ?_⟩
  rintro e w1 ⟨rfl, hdid⟩
  have h1 := hnx _ _ _ (did_drew hdid)
  have k1 := did46 hch (did_drew hdid)
  refine ⟨rfl, hidp ⟨_, at7 hk hD h1 k1, ?_⟩⟩
  obtain ⟨rv, hrf, hnx2⟩ := h1.rf hk hD
  have CR := rsend hrf x
  rw [hbl] at CR
  simp only at CR
  refine CR.mono ?_
  rintro e w2 ⟨rfl, hdid2⟩
  exact ⟨rfl, hidp ⟨_, at7 hk hD (hnx2 _ _ _ hdid2) (k1.trans (rdid46 hrf hdid2))⟩⟩

theorem both_close (h : Sta w0 w n (.slice (some ⟨g, 0, none⟩) n lc) (pvals D n) (.slice (some ⟨g2, 0, none⟩) n wc2) (qvals D n) D S S) (hk : k < n) (hD : D k = some (c, d, room)) :
    ∃ z, Calls Try.prog 23 #[.pointer (some ⟨c, 0, none⟩)] w.drew fun e w1 => e = .returned (.int .i64 z) ∧ Hid (∃ S1, At7 w0 n D g g2 lc wc2 k c d w w1 S1 S ∧
      Calls Try.prog 24 #[.pointer (some ⟨d, 0, none⟩)] w1 fun e w2 => e = .returned (.int .i64 z) ∧ Hid (∃ S2, At7 w0 n D g g2 lc wc2 k c d w w2 S2 S2)) := by
  obtain ⟨gg, R, a, hch, hnx⟩ := h.ch hk hD
  obtain ⟨bb, L, hbl⟩ : ∃ bb L, S k = (bb, L) := ⟨_, _, rfl⟩
  have CS := close_i (hch.keep (Keeps.drew (Keeps.refl (fun _ => False) w)) (by simp) (by simp))
  rw [hbl] at CS
  simp only at CS
  refine ⟨if bb = true then 102 else 0, CS.mono ?_⟩
  rintro e w1 ⟨rfl, hdid⟩
  have h1 := hnx _ _ _ (did_drew hdid)
  have k1 := did46 hch (did_drew hdid)
  refine ⟨rfl, hidp ⟨_, at7 hk hD h1 k1, ?_⟩⟩
  obtain ⟨rv, hrf, hnx2⟩ := h1.rf hk hD
  have CR := rclose hrf
  rw [hbl] at CR
  simp only at CR
  refine CR.mono ?_
  rintro e w2 ⟨rfl, hdid2⟩
  exact ⟨rfl, hidp ⟨_, at7 hk hD (hnx2 _ _ _ hdid2) (k1.trans (rdid46 hrf hdid2))⟩⟩

theorem both_recv (h : Sta w0 w n (.slice (some ⟨g, 0, none⟩) n lc) (pvals D n) (.slice (some ⟨g2, 0, none⟩) n wc2) (qvals D n) D S S) (hk : k < n) (hD : D k = some (c, d, room)) :
    ∃ y z, Calls Try.prog 21 #[.pointer (some ⟨c, 0, none⟩)] w fun e w1 => e = .returned (.tuple #[.int .i64 y, .int .i64 z]) ∧ Hid (∃ S1, At7 w0 n D g g2 lc wc2 k c d w w1 S1 S ∧
      Calls Try.prog 22 #[.pointer (some ⟨d, 0, none⟩)] w1 fun e w2 => e = .returned (.tuple #[.int .i64 y, .int .i64 z]) ∧ Hid (∃ S2, At7 w0 n D g g2 lc wc2 k c d w w2 S2 S2)) := by
  obtain ⟨gg, R, a, hch, hnx⟩ := h.ch hk hD
  obtain ⟨bb, L, hbl⟩ : ∃ bb L, S k = (bb, L) := ⟨_, _, rfl⟩
  have CS := recv_i hch
  rw [hbl] at CS
  simp only [hd_ints, ints_tail] at CS
  refine ⟨L.headD 0, recvCode bb (ints L), CS.mono ?_⟩
  rintro e w1 ⟨rfl, hdid⟩
  have h1 := hnx _ _ _ hdid
  have k1 := did46 hch hdid
  refine ⟨rfl, hidp ⟨_, at7 hk hD h1 k1, ?_⟩⟩
  obtain ⟨rv, hrf, hnx2⟩ := h1.rf hk hD
  have CR := rrecv hrf
  rw [hbl] at CR
  simp only at CR
  refine CR.mono ?_
  rintro e w2 ⟨rfl, hdid2⟩
  exact ⟨rfl, hidp ⟨_, at7 hk hD (hnx2 _ _ _ hdid2) (k1.trans (rdid46 hrf hdid2))⟩⟩
end
end Go.Proofs.Ytmnciedkkceiaaa
