/- First, the program's and the document's: the walks. -/
import Derived.Test.YtmnciedkkceiaaaPlay3
namespace Go.Proofs.Ytmnciedkkceiaaa
open Go.RowKit Go.Pairs

def intOf : Value → Int
  | .int _ n => n
  | _ => 0
def atN (a : Int) (n : Nat) : Nat := ((a.tmod n + n).tmod n).toNat
theorem atN_lt (a : Int) {n : Nat} (h : 0 < n) : atN a n < n ∧ (a.tmod n + n).tmod n = (atN a n : Int) ∧ -(n : Int) < a.tmod n ∧ a.tmod n < n := by
  have h1 : a.tmod n < n := Int.tmod_lt_of_pos a (by omega)
  have h2 : -(n : Int) < a.tmod n := Int.lt_tmod_of_pos a (by omega)
  have h3 : (a.tmod n + n).tmod n < n := Int.tmod_lt_of_pos _ (by omega)
  have h4 : 0 ≤ (a.tmod n + n).tmod n := Int.tmod_nonneg _ (by omega)
  unfold atN
  omega

def Quiet (D : Dir) (S : Sit) (i : Nat) : Prop := D i = none ∨ (S i).2 = []
def openE (D : Dir) (S : Sit) (i : Nat) : Bool := (D i).isSome && (S i).2.isEmpty && !(S i).1
def opn (D : Dir) (S : Sit) (s n : Nat) : Nat → Bool
  | 0 => false
  | j + 1 => opn D S s n j || openE D S ((s + j) % n)
def FirstR (D : Dir) (S : Sit) (s n : Nat) (a x e : Int) (S' : Sit) : Prop :=
  (∃ j, j < n ∧ (∀ m, m < j → Quiet D S ((s + m) % n)) ∧ ∃ c d room y L, D ((s + j) % n) = some (c, d, room) ∧ (S ((s + j) % n)).2 = y :: L ∧ a = (((s + j) % n : Nat) : Int) ∧ x = y ∧ e = 0 ∧ S' = upS S ((s + j) % n) ((S ((s + j) % n)).1, L)) ∨
  ((∀ m, m < n → Quiet D S ((s + m) % n)) ∧ a = 0 ∧ x = 0 ∧ e = (if opn D S s n n then 101 else 102) ∧ S' = S)
theorem first_one {D : Dir} {S : Sit} {s n : Nat} {a x e a' x' e' : Int} {S1 S2 : Sit} (h : FirstR D S s n a x e S1) (h' : FirstR D S s n a' x' e' S2) : a = a' ∧ x = x' ∧ e = e' ∧ S1 = S2 := by
  have no : ∀ k c d room y L, Quiet D S k → D k = some (c, d, room) → (S k).2 = y :: L → False := fun k c d room y L hq h1 h2 => by
    rcases hq with hq | hq
    · rw [h1] at hq; cases hq
    · rw [h2] at hq; cases hq
  rcases h with ⟨j, hj, hq, c, d, room, y, L, h1, h2, rfl, rfl, rfl, rfl⟩ | ⟨hq, rfl, rfl, rfl, rfl⟩ <;> rcases h' with ⟨j', hj', hq', c', d', room', y', L', h1', h2', rfl, rfl, rfl, rfl⟩ | ⟨hq', rfl, rfl, rfl, rfl⟩
  · rcases Nat.lt_trichotomy j j' with hlt | rfl | hlt
    · exact (no _ _ _ _ _ _ (hq' j hlt) h1 h2).elim
    · rw [h2] at h2'
      obtain ⟨rfl, rfl⟩ : x = x' ∧ L = L' := by simpa using h2'
      exact ⟨rfl, rfl, rfl, rfl⟩
    · exact (no _ _ _ _ _ _ (hq j' hlt) h1' h2').elim
  · exact (no _ _ _ _ _ _ (hq' j hj) h1 h2).elim
  · exact (no _ _ _ _ _ _ (hq j' hj') h1' h2').elim
  · exact ⟨rfl, rfl, rfl, rfl⟩
theorem upS_same (S : Sit) (i : Nat) : upS S i (S i) = S := by
  funext j; unfold upS; split
  · rename_i e; rw [e]
  · rfl
theorem ints_tail (L : List Int) : (ints L).tail = ints L.tail := by cases L <;> rfl
theorem row_cell {w : World} {B e : Nat} {v : Value} {xs : List Value} (h : w.ownsRow B e 1 v xs.length xs) (hp : 0 < xs.length) : ∃ g c, v = .slice (some ⟨g, 0, none⟩) xs.length c ∧ ∀ k, k < xs.length → w.cell? ⟨g, k, none⟩ = xs[k]? := by
  rcases h.2 with ⟨h1, h2⟩ | ⟨g, cp, cur, h1, h2, h3, h4, h5, h6, h7⟩
  · omega
  · subst h1
    exact ⟨g, cp, rfl, fun k hk => h.cellAt k (by omega)⟩
def pvals (D : Dir) (n : Nat) : List Value := (List.range n).map (pv D)
def qvals (D : Dir) (n : Nat) : List Value := (List.range n).map (qv D)
theorem pvals_len (D : Dir) (n : Nat) : (pvals D n).length = n := by simp [pvals]
theorem qvals_len (D : Dir) (n : Nat) : (qvals D n).length = n := by simp [qvals]
theorem pvals_at (D : Dir) {n k : Nat} (h : k < n) : (pvals D n)[k]? = some (pv D k) := by simp [pvals, h]
theorem qvals_at (D : Dir) {n k : Nat} (h : k < n) : (qvals D n)[k]? = some (qv D k) := by simp [qvals, h]
theorem Sta.cells {w0 w : World} {n : Nat} {lv wv : Value} {D : Dir} {Sp Sr : Sit} (h : Sta w0 w n lv (pvals D n) wv (qvals D n) D Sp Sr) (hn : 0 < n) :
    ∃ g c g' c', lv = .slice (some ⟨g, 0, none⟩) n c ∧ wv = .slice (some ⟨g', 0, none⟩) n c' ∧ ∀ w', Sta w0 w' n lv (pvals D n) wv (qvals D n) D Sp Sr → ∀ k, k < n → w'.cell? ⟨g, k, none⟩ = some (pv D k) ∧ w'.cell? ⟨g', k, none⟩ = some (qv D k) := by
  obtain ⟨g, c, h1, -⟩ := row_cell h.rowL (by rw [pvals_len]; exact hn)
  obtain ⟨g', c', h2, -⟩ := row_cell h.rowW (by rw [qvals_len]; exact hn)
  rw [pvals_len] at h1
  rw [qvals_len] at h2
  refine ⟨g, c, g', c', h1, h2, fun w' hS k hk => ⟨?_, ?_⟩⟩
  · obtain ⟨g2, c2, h3, h4⟩ := row_cell hS.rowL (by rw [pvals_len]; exact hn)
    rw [h1] at h3
    obtain ⟨rfl, -⟩ : g = g2 ∧ _ := by simpa using h3
    rw [h4 k (by rw [pvals_len]; exact hk), pvals_at D hk]
  · obtain ⟨g2, c2, h3, h4⟩ := row_cell hS.rowW (by rw [qvals_len]; exact hn)
    rw [h2] at h3
    obtain ⟨rfl, -⟩ : g' = g2 ∧ _ := by simpa using h3
    rw [h4 k (by rw [qvals_len]; exact hk), qvals_at D hk]

/-- blocks of the scripts' steps stand. -/
def Keep46 (w w' : World) : Prop := ∀ (b : Nat) (cs : Array Value) (fr : Nat × Nat), w.heap[b]? = some (Obj.cells cs 46 fr) → w'.heap[b]? = some (Obj.cells cs 46 fr)
theorem Keep46.refl (w : World) : Keep46 w w := fun _ _ _ h => h
theorem Keep46.trans {a b c : World} (h : Keep46 a b) (k : Keep46 b c) : Keep46 a c := fun x cs fr hx => k x cs fr (h x cs fr hx)
theorem did46 {w w' : World} {c : Nat} {g : Option Nat} {R : List Value} {a room : Nat} {closed cl : Bool} {L L' : List Value} (h : Ch_i w c g R a room closed L) (hd : Did_i w c g room cl L' w') : Keep46 w w' := by
  obtain ⟨g', R', a', -, -, K⟩ := hd
  intro b cs fr hb
  rw [K.block b (Array.getElem?_eq_some_iff.1 hb).1 ?_]
  · exact hb
  · rintro (e | e)
    · have := h.cell
      rw [← e, hb] at this
      simp at this
    · rcases h.ring with ⟨e1, -⟩ | ⟨k, e1, e2, -⟩
      · rw [e1] at e; cases e
      · rw [e1] at e; cases e
        rw [hb] at e2
        simp at e2
theorem rdid46 {w w' : World} {d : Nat} {rv : Value} {room : Nat} {closed cl : Bool} {L L' : List Int} (h : Rf w d rv room closed L) (hd : Rdid w d rv room cl L' w') : Keep46 w w' := by
  obtain ⟨rv', -, -, K⟩ := hd
  intro b cs fr hb
  rw [K.block b (Array.getElem?_eq_some_iff.1 hb).1 ?_]
  · exact hb
  · rintro (e | e)
    · have := h.cell
      rw [← e, hb] at this
      simp at this
    · rcases h.row with ⟨e1, -⟩ | ⟨k, off, cap, cur, e1, e2, -⟩
      · rw [e1] at e; cases e
      · rw [e1] at e; simp [Value.ownBlock] at e; subst e
        rw [hb] at e2
        simp at e2

set_option maxRecDepth 100000 in
set_option maxHeartbeats 4000000 in
theorem first_walk {w0 w : World} {n : Nat} {lv wv : Value} {D : Dir} {Sp Sr : Sit} (h : Sta w0 w n lv (pvals D n) wv (qvals D n) D Sp Sr) (hn : 0 < n) (hn6 : n ≤ 6) (x : Int) :
    Calls Try.prog 17 #[lv, .int .i64 x] w fun e w' => ∃ a y er Sp', e = .returned (.tuple #[.int .i64 a, .int .i64 y, .int .i64 er]) ∧ FirstR D Sp (atN x n) n a y er Sp' ∧ Sta w0 w' n lv (pvals D n) wv (qvals D n) D Sp' Sr ∧ Keep46 w w' := by
  obtain ⟨g, gc, g2, gc2, rfl, rfl, hcl⟩ := h.cells hn
  have HCL := hidp (fun Sp Sr w' (hS : Sta w0 w' n (.slice (some ⟨g, 0, none⟩) n gc) (pvals D n) (.slice (some ⟨g2, 0, none⟩) n gc2) (qvals D n) D Sp Sr) k (hk : k < n) => (show w'.cell? ⟨g, k, none⟩ = some (pv D k) ∧ w'.cell? ⟨g2, k, none⟩ = some (qv D k) from by
    obtain ⟨g3, c3, g4, c4, e1, e2, h5⟩ := hS.cells hn
    obtain ⟨rfl, -⟩ : g = g3 ∧ _ := by simpa using e1
    obtain ⟨rfl, -⟩ : g2 = g4 ∧ _ := by simpa using e2
    exact h5 w' hS k hk))
  obtain ⟨p1, p2, p3, p4⟩ := atN_lt x hn
  obtain ⟨s, hs⟩ : ∃ s, s = atN x n := ⟨_, rfl⟩
  rw [← hs] at p1 p2 ⊢
  have p5 : IntKind.i64.wrap (x.tmod n + n) = x.tmod n + n := IntWalk.i64_in _ (by omega)
  have hn0 : ¬ (n : Int) = 0 := by omega
  have HS0 := hidp h
  clear h hcl hs
  have t0 : ((n : Int) == 0) = false := by simp; omega
  go_enter Try.func17, Try.ntmps17
  go_wp2
  go_loopw [8, 30] (fun ev iv wr => ∃ j : Nat, j ≤ n ∧ iv = .int .i64 j ∧ ev = .int .i64 (if opn D Sp s n j then 101 else 102) ∧ (∀ m, m < j → Quiet D Sp ((s + m) % n)) ∧ Sta w0 wr n (.slice (some ⟨g, 0, none⟩) n gc) (pvals D n) (.slice (some ⟨g2, 0, none⟩) n gc2) (qvals D n) D Sp Sr ∧ Keep46 w wr) (fun _ iv _ => n - (intOf iv).toNat)
  case atStart => exact ⟨0, Nat.zero_le _, rfl, rfl, fun m hm => by omega, HS0.out, Keep46.refl w⟩
  case round =>
    obtain ⟨j, hj, rfl, rfl, hq, hS, h46⟩ := hrel
    have H46 := hidp h46
    clear h46
    clear HS0
    have HQ := hidp hq
    have HS := hidp hS
    clear hq hS
    obtain ⟨ev, hev⟩ : ∃ ev : Int, ev = if opn D Sp s n j then 101 else 102 := ⟨_, rfl⟩
    rw [← hev]
    have HE := hidp hev
    clear hev
    by_cases hlt : j < n
    · have t2 : decide (j < n) = true := decide_eq_true hlt
      have t2' : decide ((j : Int) < n) = true := decide_eq_true (by omega)
      have hwj : IntKind.i64.wrap ((j : Int) + 1) = j + 1 := IntWalk.i64_in _ (by omega)
      have hws : IntKind.i64.wrap ((s : Int) + j) = (s : Int) + j := IntWalk.i64_in _ (by omega)
      obtain ⟨k, hk⟩ : ∃ k, k = (s + j) % n := ⟨_, rfl⟩
      have hrem : ((s : Int) + j).tmod n = k := tmod_nat (a := s + j) (by omega) hk
      have hkn : k < n := by rw [hk]; exact Nat.mod_lt _ hn
      have hk0 : (0 : Int) ≤ (k : Int) := by omega
      have hk1 : ((k : Int) < n) := by omega
      have hc := (HCL.out _ _ _ HS.out k hkn).1
      have HKK := hidp hk
      clear hk
      cases hD : D k with
      | none =>
        have hpv : pv D k = .pointer none := by unfold pv; rw [hD]
        rw [hpv] at hc
        have hnext : opn D Sp s n (j + 1) = opn D Sp s n j := by
          show (opn D Sp s n j || openE D Sp ((s + j) % n)) = _
          rw [← HKK.out]; unfold openE; rw [hD]; simp
        have HN := hidp (show (∀ m, m < j + 1 → Quiet D Sp ((s + m) % n)) ∧ opn D Sp s n (j + 1) = opn D Sp s n j from ⟨fun m hm => by
          by_cases e : m < j
          · exact HQ.out m e
          · obtain rfl : m = j := by omega
            rw [← HKK.out]; exact .inl hD, hnext⟩)
        clear hD hpv hnext
        go_wp2
        exact ⟨⟨j + 1, by omega, rfl, by rw [HN.out.2]; exact congrArg _ HE.out, HN.out.1, HS.out, H46.out⟩, by simp [intOf]; omega⟩
      | some q =>
        obtain ⟨c, d, room⟩ := q
        have hpv : pv D k = .pointer (some ⟨c, 0, none⟩) := by unfold pv; rw [hD]
        rw [hpv] at hc
        obtain ⟨gg, R, a, hch, hnext⟩ := HS.out.ch hkn hD
        have CR := hidp (recv_i hch)
        have HNX := hidp (And.intro hnext (And.intro hD (fun cl L w' hd => did46 (cl := cl) (L' := L) (w' := w') hch hd)))
        obtain ⟨b, L, hbl⟩ : ∃ b L, Sp k = (b, L) := ⟨_, _, rfl⟩
        rw [hbl] at CR
        have HBL := hidp hbl
        clear hD hpv hch hnext hbl
        cases L with
        | cons y L =>
          have hcode : recvCode b (ints (y :: L)) = 0 := by simp [recvCode, ints]
          have hhd : (ints (y :: L)).headD (.int .i64 0) = .int .i64 y := rfl
          simp only [hcode, hhd] at CR
          clear hcode hhd
          go_wp2_with fail
          refine CR.out.mono ?_
          rintro e W2 ⟨rfl, hdid⟩
          have hst := HNX.out.1 b L W2 hdid
          have HF := hidp (And.intro hst (H46.out.trans (HNX.out.2.2 _ _ _ hdid)))
          clear hdid hst CR
          go_wp2
          go_ret3
          refine ⟨k, y, 0, _, rfl, .inl ⟨j, hlt, HQ.out, c, d, room, y, L, by rw [← HKK.out]; exact HNX.out.2.1, by rw [← HKK.out, HBL.out], by rw [← HKK.out], rfl, rfl, rfl⟩, ?_⟩
          rw [← HKK.out, HBL.out]
          exact HF.out
        | nil =>
          have hcode : recvCode b (ints []) = if b then 102 else 101 := by simp [recvCode, ints]
          have hhd : (ints []).headD (.int .i64 0) = .int .i64 0 := rfl
          simp only [hcode, hhd] at CR
          have HQ2 := hidp (show ∀ m, m < j + 1 → Quiet D Sp ((s + m) % n) from fun m hm => by
            by_cases e : m < j
            · exact HQ.out m e
            · obtain rfl : m = j := by omega
              rw [← HKK.out]; exact .inr (by rw [HBL.out]))
          have hop : opn D Sp s n (j + 1) = (opn D Sp s n j || !b) := by
            show (opn D Sp s n j || openE D Sp ((s + j) % n)) = _
            rw [← HKK.out]; unfold openE; rw [HNX.out.2.1, HBL.out]; simp
          have HOP := hidp hop
          clear hcode hhd hop
          cases b with
          | true =>
            simp only [if_true] at CR
            go_wp2_with fail
            refine CR.out.mono ?_
            rintro e W2 ⟨rfl, hdid⟩
            have hst := HNX.out.1 true [] W2 hdid
            rw [← HBL.out, upS_same] at hst
            have HF := hidp (And.intro hst (H46.out.trans (HNX.out.2.2 _ _ _ hdid)))
            clear hdid hst CR
            go_wp2
            exact ⟨⟨j + 1, by omega, rfl, by rw [HOP.out, Bool.not_true, Bool.or_false]; exact congrArg _ HE.out, HQ2.out, HF.out.1, HF.out.2⟩, by simp [intOf]; omega⟩
          | false =>
            simp only [Bool.false_eq_true, if_false] at CR
            go_wp2_with fail
            refine CR.out.mono ?_
            rintro e W2 ⟨rfl, hdid⟩
            have hst := HNX.out.1 false [] W2 hdid
            rw [← HBL.out, upS_same] at hst
            have HF := hidp (And.intro hst (H46.out.trans (HNX.out.2.2 _ _ _ hdid)))
            clear hdid hst CR
            go_wp2
            exact ⟨⟨j + 1, by omega, rfl, by rw [HOP.out]; simp, HQ2.out, HF.out.1, HF.out.2⟩, by simp [intOf]; omega⟩
    · obtain rfl : j = n := by omega
      have t2 : decide (j < j) = false := by simp
      have t2' : decide ((j : Int) < j) = false := by simp
      go_wp2
      go_ret3
      exact ⟨0, 0, ev, Sp, rfl, .inr ⟨HQ.out, rfl, rfl, HE.out, rfl⟩, HS.out, H46.out⟩
end Go.Proofs.Ytmnciedkkceiaaa
