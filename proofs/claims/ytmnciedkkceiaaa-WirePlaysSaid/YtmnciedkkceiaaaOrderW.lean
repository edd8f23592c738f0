/- The walk of WireOrder. -/
import Derived.Test.YtmnciedkkceiaaaNewsW
import Derived.Maps.AppendAt
namespace Go.Proofs.Ytmnciedkkceiaaa
open Go.RowKit Go.Pairs

def dis (x y : Option Nat) : Prop := ∀ k, x = some k → y ≠ some k

theorem keeps_row {S : Nat → Prop} {w w' : World} (hk : Keeps S w w') {B e sz : Nat} {v : Value} {n : Nat} {xs : List Value} (h : w.ownsRow B e sz v n xs) (hs : ∀ k, v.ownBlock = some k → ¬ S k) : w'.ownsRow B e sz v n xs := by
  refine ⟨h.1, ?_⟩
  rcases h.2 with h2 | ⟨g, cap, cur, rfl, hB, hh, r⟩
  · exact .inl h2
  · exact .inr ⟨g, cap, cur, rfl, hB, by rw [hk.block g (Array.getElem?_eq_some_iff.1 hh).1 (hs g rfl)]; exact hh, r⟩

theorem row_ne {w : World} {c B e sz n : Nat} {v : Value} {xs : List Value} (h : w.ownsRow B e sz v n xs) {cs : Array Value} {t : TypeId} (hc : w.heap[c]? = some (.cells cs t (0, 0))) (ht : t ≠ e) : v.ownBlock ≠ some c := by
  intro hk
  rcases h.2 with ⟨rfl, -⟩ | ⟨g, cap, cur, rfl, hB, hh, r⟩
  · simp [Value.ownBlock] at hk
  · simp [Value.ownBlock] at hk; subst hk; rw [hc] at hh; simp at hh; exact ht hh.2

/-- the channel holds Q; S has been sent, G has been got. -/
def WS (w0 : World) (c room : Nat) (closed : Bool) (Q S G : List Value) (sv gv : Value) (w : World) : Prop :=
  ∃ g R a, Ch_s w c g R a room closed Q ∧ w0.heap.size ≤ c ∧ (∀ k, g = some k → w0.heap.size ≤ k) ∧ Keeps (fun _ => False) w0 w ∧
    w.ownsRow w0.heap.size 9 1 sv S.length S ∧ w.ownsRow w0.heap.size 9 1 gv G.length G ∧ dis g sv.ownBlock ∧ dis g gv.ownBlock ∧ dis sv.ownBlock gv.ownBlock

theorem ws_did {w0 w w' : World} {c room : Nat} {closed closed' : Bool} {Q Q' S G : List Value} {sv gv : Value} {g : Option Nat} {R : List Value} {a : Nat}
    (C : Ch_s w c g R a room closed Q) (hc : w0.heap.size ≤ c) (hg : ∀ k, g = some k → w0.heap.size ≤ k) (hK : Keeps (fun _ => False) w0 w)
    (hs : w.ownsRow w0.heap.size 9 1 sv S.length S) (hgv : w.ownsRow w0.heap.size 9 1 gv G.length G) (d1 : dis g sv.ownBlock) (d2 : dis g gv.ownBlock) (d3 : dis sv.ownBlock gv.ownBlock)
    (hD : Did_s w c g room closed' Q' w') : WS w0 c room closed' Q' S G sv gv w' := by
  obtain ⟨g', R', a', C', hg', K'⟩ := hD
  have n1 : ∀ k, sv.ownBlock = some k → ¬ (k = c ∨ some k = g) := fun k hk h => by
    rcases h with h | h
    · exact row_ne hs C.cell (by decide) (h ▸ hk)
    · exact d1 k h.symm hk
  have n2 : ∀ k, gv.ownBlock = some k → ¬ (k = c ∨ some k = g) := fun k hk h => by
    rcases h with h | h
    · exact row_ne hgv C.cell (by decide) (h ▸ hk)
    · exact d2 k h.symm hk
  obtain ⟨_, _, _, _, _, hg2, K2⟩ := live_s_step hc hg hK ⟨g', R', a', C', hg', K'⟩
  refine ⟨g', R', a', C', hc, ?_, K2, keeps_row K' hs n1, keeps_row K' hgv n2, ?_, ?_, d3⟩
  · intro k hk
    rcases hg' with rfl | ⟨k', rfl, h⟩
    · exact hg k hk
    · have := hK.size; simp at hk; omega
  · intro k hk hk2
    rcases hg' with rfl | ⟨k', rfl, h⟩
    · exact d1 k hk hk2
    · have := (hs.lt k hk2).2; simp at hk; omega
  · intro k hk hk2
    rcases hg' with rfl | ⟨k', rfl, h⟩
    · exact d2 k hk hk2
    · have := (hgv.lt k hk2).2; simp at hk; omega

theorem ws_send {w0 w : World} {c room : Nat} {closed : Bool} {Q S G : List Value} {sv gv : Value} (h : WS w0 c room closed Q S G sv gv w) (x : ByteArray) :
    Calls Try.prog 12 #[.pointer (some ⟨c, 0, none⟩), .string x] w fun e w' => e = .returned (.int .i64 (sendCode closed Q.length room)) ∧ WS w0 c room closed (sendL closed Q room (.string x)) S G sv gv w' := by
  obtain ⟨g, R, a, C, hc, hg, hK, hs, hgv, d1, d2, d3⟩ := h
  refine (send_s C x).mono ?_
  rintro e w' ⟨rfl, hD⟩
  exact ⟨rfl, ws_did C hc hg hK hs hgv d1 d2 d3 hD⟩

theorem ws_recv {w0 w : World} {c room : Nat} {closed : Bool} {Q S G : List Value} {sv gv : Value} (h : WS w0 c room closed Q S G sv gv w) :
    Calls Try.prog 15 #[.pointer (some ⟨c, 0, none⟩)] w fun e w' => e = .returned (.tuple #[Q.headD (.string ⟨#[]⟩), .int .i64 (recvCode closed Q)]) ∧ WS w0 c room closed Q.tail S G sv gv w' := by
  obtain ⟨g, R, a, C, hc, hg, hK, hs, hgv, d1, d2, d3⟩ := h
  refine (recv_s C).mono ?_
  rintro e w' ⟨rfl, hD⟩
  exact ⟨rfl, ws_did C hc hg hK hs hgv d1 d2 d3 hD⟩

theorem ws_close {w0 w : World} {c room : Nat} {Q S G : List Value} {sv gv : Value} (h : WS w0 c room false Q S G sv gv w) :
    Calls Try.prog 16 #[.pointer (some ⟨c, 0, none⟩)] w fun e w' => e = .returned (.int .i64 0) ∧ WS w0 c room true Q S G sv gv w' := by
  obtain ⟨g, R, a, C, hc, hg, hK, hs, hgv, d1, d2, d3⟩ := h
  refine (close_no_s C).mono ?_
  rintro e w' ⟨rfl, hD⟩
  exact ⟨rfl, ws_did C hc hg hK hs hgv d1 d2 d3 hD⟩

theorem ws_live {w0 w : World} {c room : Nat} {closed : Bool} {Q S G : List Value} {sv gv : Value} (h : WS w0 c room closed Q S G sv gv w) : Live_s w0 c room closed Q w := by
  obtain ⟨g, R, a, C, hc, hg, hK, hs, hgv, d1, d2, d3⟩ := h
  exact ⟨g, R, a, C, hc, hg, hK⟩

theorem ws_drewN {w0 w : World} {c room : Nat} {closed : Bool} {Q S G : List Value} {sv gv : Value} (h : WS w0 c room closed Q S G sv gv w) (n : Nat) : WS w0 c room closed Q S G sv gv (w.drewN n) := by
  obtain ⟨g, R, a, C, hc, hg, hK, hs, hgv, d1, d2, d3⟩ := h
  exact ⟨g, R, a, C.keep (keeps_drewN (Keeps.refl (fun _ => False) w) n) (by simp) (by simp), hc, hg, keeps_drewN hK n, hs, hgv, d1, d2, d3⟩

theorem ws_bounds {w0 w : World} {c room : Nat} {closed : Bool} {Q S G : List Value} {sv gv : Value} (h : WS w0 c room closed Q S G sv gv w) : Q.length ≤ room ∧ 1 ≤ room ∧ room ≤ 65536 := by
  obtain ⟨g, R, a, C, -⟩ := h
  exact ⟨Nat.le_trans C.cont.1 C.rlen, C.room1, C.room2⟩

/-- behind 'sent = append(sent, x)'. -/
theorem ws_app1 {w0 w w' : World} {c room : Nat} {closed : Bool} {Q S G : List Value} {sv gv sv' : Value} (h : WS w0 c room closed Q S G sv gv w) (x : Value)
    (hown : w'.ownsRow w0.heap.size 9 1 sv' (S.length + 1) (S ++ [x])) (hgr : (w.alloc (.cells #[x] 9)).grownBy w' sv.ownBlock) (hloc : sv'.ownBlock = sv.ownBlock ∨ sv'.ownBlock = some (w.heap.size + 1)) :
    WS w0 c room closed Q (S ++ [x]) G sv' gv w' := by
  obtain ⟨g, R, a, C, hc, hg, hK, hs, hgv, d1, d2, d3⟩ := h
  have K' : Keeps (fun k => some k = sv.ownBlock) w w' := ((Keeps.refl _ w).alloc _).grown hgr (fun k hk => .inl hk.symm)
  have hcl : c < w.heap.size := (Array.getElem?_eq_some_iff.1 C.cell).1
  refine ⟨g, R, a, C.keep K' (fun h => row_ne hs C.cell (by decide) h.symm) (fun k hk h => d1 k hk h.symm), hc, hg, hK.then_ K' (fun i hi h => ?_), by simpa using hown, keeps_row K' hgv (fun k hk h => d3 k h.symm hk), ?_, d2, ?_⟩
  · have := (hs.lt i h.symm).1; omega
  · intro k hk h
    rcases hloc with e | e
    · rw [e] at h; exact d1 k hk h
    · rw [e] at h
      have : k = w.heap.size + 1 := by simpa using h.symm
      rcases C.ring with ⟨rfl, -⟩ | ⟨k', rfl, hk', -⟩
      · simp at hk
      · have := (Array.getElem?_eq_some_iff.1 hk').1; simp at hk; omega
  · intro k hk h
    rcases hloc with e | e
    · rw [e] at hk; exact d3 k hk h
    · rw [e] at hk
      have h1 : k = w.heap.size + 1 := by simpa using hk.symm
      have := (hgv.lt k h).2; omega

/-- behind 'got = append(got, x)'. -/
theorem ws_app2 {w0 w w' : World} {c room : Nat} {closed : Bool} {Q S G : List Value} {sv gv gv' : Value} (h : WS w0 c room closed Q S G sv gv w) (x : Value)
    (hown : w'.ownsRow w0.heap.size 9 1 gv' (G.length + 1) (G ++ [x])) (hgr : (w.alloc (.cells #[x] 9)).grownBy w' gv.ownBlock) (hloc : gv'.ownBlock = gv.ownBlock ∨ gv'.ownBlock = some (w.heap.size + 1)) :
    WS w0 c room closed Q S (G ++ [x]) sv gv' w' := by
  obtain ⟨g, R, a, C, hc, hg, hK, hs, hgv, d1, d2, d3⟩ := h
  have K' : Keeps (fun k => some k = gv.ownBlock) w w' := ((Keeps.refl _ w).alloc _).grown hgr (fun k hk => .inl hk.symm)
  refine ⟨g, R, a, C.keep K' (fun h => row_ne hgv C.cell (by decide) h.symm) (fun k hk h => d2 k hk h.symm), hc, hg, hK.then_ K' (fun i hi h => ?_), keeps_row K' hs (fun k hk h => d3 k hk h.symm), by simpa using hown, d1, ?_, ?_⟩
  · have := (hgv.lt i h.symm).1; omega
  · intro k hk h
    rcases hloc with e | e
    · rw [e] at h; exact d2 k hk h
    · rw [e] at h
      have : k = w.heap.size + 1 := by simpa using h.symm
      rcases C.ring with ⟨rfl, -⟩ | ⟨k', rfl, hk', -⟩
      · simp at hk
      · have := (Array.getElem?_eq_some_iff.1 hk').1; simp at hk; omega
  · intro k hk h
    rcases hloc with e | e
    · rw [e] at h; exact d3 k hk h
    · rw [e] at h
      have h1 : k = w.heap.size + 1 := by simpa using h.symm
      have := (hs.lt k hk).2; omega

theorem ws_row1 {w0 w : World} {c room : Nat} {closed : Bool} {Q S G : List Value} {sv gv : Value} (h : WS w0 c room closed Q S G sv gv w) : w.ownsRow w0.heap.size 9 1 sv S.length S ∧ w0.heap.size ≤ w.heap.size := by
  obtain ⟨g, R, a, C, hc, hg, hK, hs, hgv, d1, d2, d3⟩ := h
  exact ⟨hs, hK.size⟩
theorem ws_row2 {w0 w : World} {c room : Nat} {closed : Bool} {Q S G : List Value} {sv gv : Value} (h : WS w0 c room closed Q S G sv gv w) : w.ownsRow w0.heap.size 9 1 gv G.length G := by
  obtain ⟨g, R, a, C, hc, hg, hK, hs, hgv, d1, d2, d3⟩ := h
  exact hgv

theorem slice_of {w : World} {B e sz : Nat} {v : Value} {n : Nat} {xs : List Value} (h : w.ownsRow B e sz v n xs) : ∃ ao cap, v = .slice ao n cap ∧ (0 < n → ∃ g, ao = some ⟨g, 0, none⟩ ∧ B ≤ g) := by
  rcases h.2 with ⟨rfl, rfl⟩ | ⟨g, cap, cur, rfl, hB, -⟩
  · exact ⟨none, 0, rfl, by omega⟩
  · exact ⟨_, cap, rfl, fun _ => ⟨g, rfl, hB⟩⟩
end Go.Proofs.Ytmnciedkkceiaaa
