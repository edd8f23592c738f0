/- First, the document's: the walk. -/
import Derived.Test.YtmnciedkkceiaaaPlay4
import Derived.Deep.Cut
namespace Go.Proofs.Ytmnciedkkceiaaa
open Go.RowKit Go.Pairs

set_option maxRecDepth 100000 in
theorem rrecv_nil {w : World} {d : Nat} {lv : Value} {room : Nat} {closed : Bool} (h : Rf w d lv room closed []) :
    Calls Try.prog 22 #[.pointer (some ⟨d, 0, none⟩)] w fun e w' => e = .returned (.tuple #[.int .i64 0, .int .i64 (if closed then 102 else 101)]) ∧ w' = w := by
  have c2 : w.cell? ⟨d, 2, none⟩ = some (.bool closed) := cells_at h.cell 2
  have c0 : w.cell? ⟨d, 0, none⟩ = some lv := cells_at h.cell 0
  obtain ⟨oa, cap, rfl⟩ := h.row.shape
  cases closed with
  | true =>
    clear h
    go_enter Try.func22, Try.ntmps22
    go_wp2
    go_ret2
    exact ⟨rfl, rfl⟩
  | false =>
    clear h
    go_enter Try.func22, Try.ntmps22
    go_wp2
    go_ret2
    exact ⟨rfl, rfl⟩

theorem rdid_around {w W1 W2 W3 : World} {d : Nat} {rv : Value} {room : Nat} {closed cl : Bool} {L0 L : List Int} (h : Rf w d rv room closed L0) (K1 : Keeps (fun _ => False) w W1) (hd : Rdid W1 d rv room cl L W2) {rb : Nat} (K2 : Keeps (fun k => k = rb) W2 W3) (hrb : w.heap.size ≤ rb) (hrb2 : rb < W1.heap.size) : Rdid w d rv room cl L W3 := by
  obtain ⟨rv', h1, h2, h3⟩ := hd
  have hdlt : d < w.heap.size := (Array.getElem?_eq_some_iff.1 h.cell).1
  have hown : ∀ k, rv.ownBlock = some k → k < w.heap.size := fun k hk => by
    rcases h.row with ⟨e, -⟩ | ⟨b, off, cap, cur, e, e2, -⟩
    · rw [e] at hk; cases hk
    · rw [e] at hk; simp [Value.ownBlock] at hk; subst hk; exact (Array.getElem?_eq_some_iff.1 e2).1
  refine ⟨rv', h1.keep K2 (by omega) (fun k hk e => ?_), h2.imp id (fun ⟨k, e1, e2⟩ => ⟨k, e1, Nat.le_trans K1.size e2⟩), ?_⟩
  · rcases h2 with e1 | ⟨k', e1, e2⟩
    · rw [e1] at hk; have := hown k hk; omega
    · rw [e1] at hk; cases hk; omega
  · exact ((K1.mono fun k _ e => e.elim).trans h3).then_ K2 (fun i hi e => by omega)

set_option maxRecDepth 100000 in
set_option maxHeartbeats 4000000 in
theorem reffirst_walk {w0 w : World} {n : Nat} {lv wv : Value} {D : Dir} {Sp Sr : Sit} (h : Sta w0 w n lv (pvals D n) wv (qvals D n) D Sp Sr) (hn : 0 < n) (hn6 : n ≤ 6) (x : Int) :
    Calls Try.prog 18 #[wv, .int .i64 x] w fun e w' => ∃ a y er Sr', e = .returned (.agg #[.int .i64 a, .int .i64 y, .int .i64 er]) ∧ FirstR D Sr (atN x n) n a y er Sr' ∧ Sta w0 w' n lv (pvals D n) wv (qvals D n) D Sp Sr' := by
  obtain ⟨g, gc, g2, gc2, rfl, rfl, hcl⟩ := h.cells hn
  have HCL := hidp (fun Sp Sr w' (hS : Sta w0 w' n (.slice (some ⟨g, 0, none⟩) n gc) (pvals D n) (.slice (some ⟨g2, 0, none⟩) n gc2) (qvals D n) D Sp Sr) k (hk : k < n) => (show w'.cell? ⟨g, k, none⟩ = some (pv D k) ∧ w'.cell? ⟨g2, k, none⟩ = some (qv D k) from by
    obtain ⟨g3, c3, g4, c4, e1, e2, h5⟩ := hS.cells hn
    obtain ⟨rfl, -⟩ : g = g3 ∧ _ := by simpa using e1
    obtain ⟨rfl, -⟩ : g2 = g4 ∧ _ := by simpa using e2
    exact h5 w' hS k hk))
  obtain ⟨p1, p2, p3, p4⟩ := atN_lt x hn
  obtain ⟨s, hs⟩ : ∃ s, s = atN x n := ⟨_, rfl⟩
  rw [← hs] at p1 p2 ⊢
  have p5 : IntKind.i64.wrap (x.tmod n + n) = x.tmod n + n := IntWalk.i64_in _ (by omega)
  have hn0 : ¬ (n : Int) = 0 := by omega
  have HS0 := hidp h
  clear h hcl hs
  obtain ⟨rb, hrb⟩ : ∃ rb, rb = w.heap.size := ⟨_, rfl⟩
  obtain ⟨W1, hW1⟩ : ∃ W1, W1 = w.alloc (.cells #[.int .i64 0, .int .i64 0, .int .i64 0] 50) := ⟨_, rfl⟩
  have hr1 : W1.heap[rb]? = some (.cells #[.int .i64 0, .int .i64 0, .int .i64 0] 50 (0, 0)) := by rw [hW1, hrb]; exact heap_alloc_new _ _
  have K1 : Keeps (fun _ => False) w W1 := hW1 ▸ (Keeps.refl _ _).alloc _
  have HW := hidp (And.intro K1 (And.intro hr1 (show w.heap.size ≤ rb by omega)))
  have HS1 := hidp (HS0.out.quiet K1)
  clear K1 hr1
  go_enter Try.func18, Try.ntmps18
  go_upto_region 1 with (fail)
  rw [← hW1]
  simp only [← hrb]
  clear hW1 hrb
  go_wp2
  go_loopw [5, 6] (fun ov iv wr => wr = W1 ∧ ∃ j : Nat, j ≤ n ∧ iv = .int .i64 j ∧ ov = .bool (opn D Sr s n j) ∧ (∀ m, m < j → Quiet D Sr ((s + m) % n))) (fun _ iv _ => n - (intOf iv).toNat)
  case atStart => exact ⟨rfl, 0, Nat.zero_le _, rfl, rfl, fun m hm => by omega⟩
  case round =>
    obtain ⟨rfl, j, hj, rfl, rfl, hq⟩ := hrel
    have HQ := hidp hq
    clear hq
    obtain ⟨ov, hov⟩ : ∃ ov, ov = opn D Sr s n j := ⟨_, rfl⟩
    rw [← hov]
    have HE := hidp hov
    clear hov
    by_cases hlt : j < n
    · have t2 : decide (j < n) = true := decide_eq_true hlt
      have t2' : decide ((j : Int) < n) = true := decide_eq_true (by omega)
      have hwj : IntKind.i64.wrap ((j : Int) + 1) = j + 1 := IntWalk.i64_in _ (by omega)
      have hws : IntKind.i64.wrap ((s : Int) + j) = (s : Int) + j := IntWalk.i64_in _ (by omega)
      obtain ⟨k, hk⟩ : ∃ k, k = (s + j) % n := ⟨_, rfl⟩
      have hrem : ((s : Int) + j).tmod n = k := tmod_nat (a := s + j) (by omega) hk
      have hkn : k < n := by rw [hk]; exact Nat.mod_lt _ hn
      have hk0 : (0 : Int) ≤ (k : Int) := by omega
      have hk1 : ((k : Int) < n) := by omega
      have hc := (HCL.out _ _ _ HS1.out k hkn).2
      have HKK := hidp hk
      clear hk
      cases hD : D k with
      | none =>
        have hpv : qv D k = .pointer none := by unfold qv; rw [hD]
        rw [hpv] at hc
        have hnext : opn D Sr s n (j + 1) = opn D Sr s n j := by
          show (opn D Sr s n j || openE D Sr ((s + j) % n)) = _
          rw [← HKK.out]; unfold openE; rw [hD]; simp
        have HN := hidp (show (∀ m, m < j + 1 → Quiet D Sr ((s + m) % n)) ∧ opn D Sr s n (j + 1) = opn D Sr s n j from ⟨fun m hm => by
          by_cases e : m < j
          · exact HQ.out m e
          · obtain rfl : m = j := by omega
            rw [← HKK.out]; exact .inl hD, hnext⟩)
        clear hD hpv hnext
        go_wp2
        exact ⟨⟨trivial, j + 1, by omega, rfl, by rw [HN.out.2]; exact congrArg _ HE.out, HN.out.1⟩, by simp [intOf]; omega⟩
      | some q =>
        obtain ⟨c, d, room⟩ := q
        have hpv : qv D k = .pointer (some ⟨d, 0, none⟩) := by unfold qv; rw [hD]
        rw [hpv] at hc
        obtain ⟨rv, hch, hnext⟩ := HS0.out.rf hkn hD
        have hch1 := hch.keep HW.out.1 (by simp) (by simp)
        have HNX := hidp (And.intro hnext (And.intro hD (And.intro hch hch1)))
        obtain ⟨b, L, hbl⟩ : ∃ b L, Sr k = (b, L) := ⟨_, _, rfl⟩
        have HBL := hidp hbl
        cases L with
        | cons y L =>
          have CR0 := rrecv hch1
          rw [hbl] at CR0
          have hcode : recvCode b (ints (y :: L)) = 0 := by simp [recvCode, ints]
          have hhd : (y :: L).headD 0 = y := rfl
          have htl : (y :: L).tail = L := rfl
          simp only [hcode, hhd, htl] at CR0
          have CR := hidp CR0
          clear hcode hhd htl CR0 hD hpv hch hch1 hnext hbl
          go_wp2_with fail
          refine CR.out.mono ?_
          rintro e W2 ⟨rfl, hdid⟩
          have hr2 : W2.heap[rb]? = some (.cells #[.int .i64 0, .int .i64 0, .int .i64 0] 50 (0, 0)) := by
            obtain ⟨rv', -, -, K5⟩ := hdid
            refine (K5.block rb (Array.getElem?_eq_some_iff.1 HW.out.2.1).1 ?_).trans HW.out.2.1
            rintro (e | e)
            · have h7 := HNX.out.2.2.2.cell
              rw [← e, HW.out.2.1] at h7
              simp at h7
            · rcases HNX.out.2.2.2.row with ⟨e1, -⟩ | ⟨b2, off, cap, cur, e1, e2, -⟩
              · rw [e1] at e; cases e
              · rw [e1] at e; simp [Value.ownBlock] at e; subst e
                rw [HW.out.2.1] at e2; simp at e2
          have hst : Sta w0 (((W2.setCell ⟨rb, 0, none⟩ (.int .i64 k)).setCell ⟨rb, 1, none⟩ (.int .i64 y)).setCell ⟨rb, 2, none⟩ (.int .i64 0)) n (.slice (some ⟨g, 0, none⟩) n gc) (pvals D n) (.slice (some ⟨g2, 0, none⟩) n gc2) (qvals D n) D Sp (upS Sr k (b, L)) := by
            refine HNX.out.1 b L _ (rdid_around HNX.out.2.2.1 HW.out.1 hdid (rb := rb) ?_ HW.out.2.2 (Array.getElem?_eq_some_iff.1 HW.out.2.1).1)
            exact (((Keeps.refl (fun k => k = rb) W2).setCell (p := ⟨rb, 0, none⟩) (.inl rfl) _).setCell (p := ⟨rb, 1, none⟩) (.inl rfl) _).setCell (p := ⟨rb, 2, none⟩) (.inl rfl) _
          have HF := hidp hst
          have r0 := cells_at hr2 0
          have r1 := cells_at hr2 1
          have r2 := cells_at hr2 2
          have f0 := free_at hr2 0
          have f1 := free_at hr2 1
          have f2 := free_at hr2 2
          simp only [List.getElem?_toArray, List.getElem?_cons_zero, List.getElem?_cons_succ] at r0 r1 r2
          clear hdid hst CR hr2
          go_wp2
          refine bodyPost_ret (v := .agg #[.int .i64 k, .int .i64 y, .int .i64 0]) (by simp [results, Try.results18, go_sem, r0, r1, r2]) rfl ?_
          refine ⟨k, y, 0, _, rfl, .inl ⟨j, hlt, HQ.out, c, d, room, y, L, by rw [← HKK.out]; exact HNX.out.2.1, by rw [← HKK.out, HBL.out], by rw [← HKK.out], rfl, rfl, rfl⟩, ?_⟩
          rw [← HKK.out, HBL.out]
          exact HF.out
        | nil =>
          rw [hbl] at hch1
          have CR := hidp (rrecv_nil hch1)
          have HQ2 := hidp (show ∀ m, m < j + 1 → Quiet D Sr ((s + m) % n) from fun m hm => by
            by_cases e : m < j
            · exact HQ.out m e
            · obtain rfl : m = j := by omega
              rw [← HKK.out]; exact .inr (by rw [HBL.out]))
          have hop : opn D Sr s n (j + 1) = (opn D Sr s n j || !b) := by
            show (opn D Sr s n j || openE D Sr ((s + j) % n)) = _
            rw [← HKK.out]; unfold openE; rw [HNX.out.2.1, HBL.out]; simp
          have HOP := hidp hop
          clear hop hD hpv hch hch1 hnext hbl
          cases b with
          | true =>
            simp only [if_true] at CR
            cases ov with
            | true =>
              go_wp2_with fail
              refine CR.out.mono ?_
              rintro e W2 ⟨rfl, rfl⟩
              clear CR
              go_wp2
              exact ⟨⟨trivial, j + 1, by omega, rfl, by rw [HOP.out, ← HE.out]; rfl, HQ2.out⟩, by simp [intOf]; omega⟩
            | false =>
              go_wp2_with fail
              refine CR.out.mono ?_
              rintro e W2 ⟨rfl, rfl⟩
              clear CR
              go_wp2
              exact ⟨⟨trivial, j + 1, by omega, rfl, by rw [HOP.out, ← HE.out]; rfl, HQ2.out⟩, by simp [intOf]; omega⟩
          | false =>
            simp only [Bool.false_eq_true, if_false] at CR
            cases ov with
            | true =>
              go_wp2_with fail
              refine CR.out.mono ?_
              rintro e W2 ⟨rfl, rfl⟩
              clear CR
              go_wp2
              exact ⟨⟨trivial, j + 1, by omega, rfl, by rw [HOP.out, ← HE.out]; rfl, HQ2.out⟩, by simp [intOf]; omega⟩
            | false =>
              go_wp2_with fail
              refine CR.out.mono ?_
              rintro e W2 ⟨rfl, rfl⟩
              clear CR
              go_wp2
              exact ⟨⟨trivial, j + 1, by omega, rfl, by rw [HOP.out, ← HE.out]; rfl, HQ2.out⟩, by simp [intOf]; omega⟩
    · obtain rfl : j = n := by omega
      have t2 : decide (j < j) = false := by simp
      have t2' : decide ((j : Int) < j) = false := by simp
      have hr2 := HW.out.2.1
      have r0 := cells_at hr2 0
      have r1 := cells_at hr2 1
      have r2 := cells_at hr2 2
      have f0 := free_at hr2 0
      have f1 := free_at hr2 1
      have f2 := free_at hr2 2
      simp only [List.getElem?_toArray, List.getElem?_cons_zero, List.getElem?_cons_succ] at r0 r1 r2
      have HFF := hidp (fun (u : Value) => HS0.out.quiet (w' := (((wr.setCell ⟨rb, 0, none⟩ (.int .i64 0)).setCell ⟨rb, 1, none⟩ (.int .i64 0)).setCell ⟨rb, 2, none⟩ u)) (((HW.out.1.setCell (p := ⟨rb, 0, none⟩) (.inr HW.out.2.2) _).setCell (p := ⟨rb, 1, none⟩) (.inr HW.out.2.2) _).setCell (p := ⟨rb, 2, none⟩) (.inr HW.out.2.2) _))
      clear hr2
      cases ov with
      | true =>
        go_wp2
        refine bodyPost_ret (v := .agg #[.int .i64 0, .int .i64 0, .int .i64 101]) (by simp [results, Try.results18, go_sem, r0, r1, r2]) rfl ?_
        exact ⟨0, 0, 101, Sr, rfl, .inr ⟨HQ.out, rfl, rfl, by rw [← HE.out]; rfl, rfl⟩, HFF.out _⟩
      | false =>
        go_wp2
        refine bodyPost_ret (v := .agg #[.int .i64 0, .int .i64 0, .int .i64 102]) (by simp [results, Try.results18, go_sem, r0, r1, r2]) rfl ?_
        exact ⟨0, 0, 102, Sr, rfl, .inr ⟨HQ.out, rfl, rfl, by rw [← HE.out]; rfl, rfl⟩, HFF.out _⟩
end Go.Proofs.Ytmnciedkkceiaaa
