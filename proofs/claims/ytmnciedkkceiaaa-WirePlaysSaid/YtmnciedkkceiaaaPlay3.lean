/- A family of things, each in blocks of its own; the channels that are played. -/
import Derived.Test.YtmnciedkkceiaaaPlay2
namespace Go.Proofs.Ytmnciedkkceiaaa
open Go.RowKit Go.Pairs

def Stable (A : World → List Nat → Prop) : Prop := ∀ w w' F S, A w F → Keeps S w w' → (∀ b ∈ F, ¬ S b) → A w' F
structure Fam (B : Nat) (w : World) (dom : Nat × Nat → Prop) (A : Nat × Nat → World → List Nat → Prop) (F : Nat × Nat → List Nat) : Prop where
  holds : ∀ k, dom k → A k w (F k)
  lo : ∀ k, dom k → ∀ b ∈ F k, B ≤ b ∧ b < w.heap.size
  apart : ∀ k m, dom k → dom m → k ≠ m → ∀ b ∈ F k, b ∉ F m
def turn {α : Type} (f : Nat × Nat → α) (k : Nat × Nat) (x : α) : Nat × Nat → α := fun m => if m = k then x else f m
theorem turn_at {α : Type} (f : Nat × Nat → α) (k : Nat × Nat) (x : α) : turn f k x k = x := by simp [turn]
theorem turn_ne {α : Type} (f : Nat × Nat → α) {k m : Nat × Nat} (x : α) (h : m ≠ k) : turn f k x m = f m := by simp [turn, h]

section
variable {B : Nat} {w w' : World} {dom : Nat × Nat → Prop} {A A2 : Nat × Nat → World → List Nat → Prop} {F : Nat × Nat → List Nat}
theorem Fam.turned (h : Fam B w dom A F) (hst : ∀ m, dom m → Stable (A m)) {k : Nat × Nat} (hk : dom k) {F' : List Nat} (hK : Keeps (fun b => b ∈ F k) w w') (hA : A2 k w' F') (hF : ∀ b ∈ F', (b ∈ F k ∨ w.heap.size ≤ b) ∧ b < w'.heap.size) (hB : B ≤ w.heap.size)
    (hsame : ∀ m, dom m → m ≠ k → A2 m = A m) : Fam B w' dom A2 (turn F k F') := by
  refine ⟨fun m hm => ?_, fun m hm b hb => ?_, fun m n hm hn hmn b hb => ?_⟩
  · by_cases e : m = k
    · subst e; rw [turn_at]; exact hA
    · rw [hsame m hm e, turn_ne _ _ e]
      exact hst m hm w w' _ _ (h.holds m hm) hK (fun b hb hx => h.apart m k hm hk e b hb hx)
  · by_cases e : m = k
    · subst e
      rw [turn_at] at hb
      obtain ⟨h1, h2⟩ := hF b hb
      refine ⟨?_, h2⟩
      rcases h1 with h1 | h1
      · exact (h.lo m hm b h1).1
      · omega
    · rw [turn_ne _ _ e] at hb
      have := h.lo m hm b hb
      exact ⟨this.1, Nat.lt_of_lt_of_le this.2 hK.size⟩
  · by_cases e : m = k
    · subst e
      have e2 : n ≠ m := fun e => hmn e.symm
      rw [turn_at] at hb
      rw [turn_ne _ _ e2]
      rcases (hF b hb).1 with h1 | h1
      · exact h.apart m n hm hn hmn b h1
      · intro h2; have := (h.lo n hn b h2).2; omega
    · rw [turn_ne _ _ e] at hb
      by_cases e2 : n = k
      · subst e2
        rw [turn_at]
        intro h2
        rcases (hF b h2).1 with h1 | h1
        · exact h.apart m n hm hn hmn b hb h1
        · have := (h.lo m hm b hb).2; omega
      · rw [turn_ne _ _ e2]; exact h.apart m n hm hn hmn b hb
theorem Fam.quiet (h : Fam B w dom A F) (hst : ∀ m, dom m → Stable (A m)) (hK : Keeps (fun _ => False) w w') : Fam B w' dom A F :=
  ⟨fun m hm => hst m hm w w' _ _ (h.holds m hm) hK (by simp), fun m hm b hb => ⟨(h.lo m hm b hb).1, Nat.lt_of_lt_of_le (h.lo m hm b hb).2 hK.size⟩, h.apart⟩
/-- one more. -/
theorem Fam.more (h : Fam B w dom A F) {k : Nat × Nat} {dom2 : Nat × Nat → Prop} (hdom : ∀ m, dom2 m → dom m ∨ m = k) {F' : List Nat} (hA : A2 k w F') (hF : ∀ b ∈ F', (B ≤ b ∧ b < w.heap.size) ∧ ∀ m, dom m → b ∉ F m)
    (hsame : ∀ m, dom m → m ≠ k → A2 m = A m) : Fam B w dom2 A2 (turn F k F') := by
  refine ⟨fun m hm => ?_, fun m hm b hb => ?_, fun m n hm hn hmn b hb => ?_⟩
  · by_cases e : m = k
    · subst e; rw [turn_at]; exact hA
    · have hm' := (hdom m hm).resolve_right e
      rw [hsame m hm' e, turn_ne _ _ e]; exact h.holds m hm'
  · by_cases e : m = k
    · subst e; rw [turn_at] at hb; exact (hF b hb).1
    · rw [turn_ne _ _ e] at hb; exact h.lo m ((hdom m hm).resolve_right e) b hb
  · by_cases e : m = k
    · subst e
      have e2 : n ≠ m := fun e => hmn e.symm
      rw [turn_at] at hb
      rw [turn_ne _ _ e2]
      exact (hF b hb).2 n ((hdom n hn).resolve_right e2)
    · rw [turn_ne _ _ e] at hb
      by_cases e2 : n = k
      · subst e2
        rw [turn_at]
        intro h2
        exact (hF b h2).2 m ((hdom m hm).resolve_right e) hb
      · rw [turn_ne _ _ e2]; exact h.apart m n ((hdom m hm).resolve_right e) ((hdom n hn).resolve_right e2) hmn b hb
end

/-- slot i: none, or a channel at block c, the document's at d, of this room. -/
abbrev Dir := Nat → Option (Nat × Nat × Nat)
abbrev Sit := Nat → Bool × List Int
def pv (D : Dir) (i : Nat) : Value := match D i with | none => .pointer none | some (c, _, _) => .pointer (some ⟨c, 0, none⟩)
def qv (D : Dir) (i : Nat) : Value := match D i with | none => .pointer none | some (_, d, _) => .pointer (some ⟨d, 0, none⟩)
def asL (B : Nat) (e : TypeId) (v : Value) (xs : List Value) (w : World) (F : List Nat) : Prop := w.ownsRow B e 1 v xs.length xs ∧ F = v.ownBlock.toList
def asP (D : Dir) (S : Sit) (i : Nat) (w : World) (F : List Nat) : Prop := match D i with
  | none => F = []
  | some (c, _, room) => ∃ g R a, Ch_i w c g R a room (S i).1 (ints (S i).2) ∧ F = c :: g.toList
def asR (D : Dir) (S : Sit) (i : Nat) (w : World) (F : List Nat) : Prop := match D i with
  | none => F = []
  | some (_, d, room) => ∃ lv, Rf w d lv room (S i).1 (S i).2 ∧ F = d :: lv.ownBlock.toList
def domS (n : Nat) (k : Nat × Nat) : Prop := k = (0, 0) ∨ k = (1, 0) ∨ ((k.1 = 2 ∨ k.1 = 3) ∧ k.2 < n)
def AA (B : Nat) (lv : Value) (xs : List Value) (wv : Value) (ys : List Value) (D : Dir) (Sp Sr : Sit) (k : Nat × Nat) : World → List Nat → Prop :=
  if k.1 = 0 then asL B 22 lv xs else if k.1 = 1 then asL B 26 wv ys else if k.1 = 2 then asP D Sp k.2 else asR D Sr k.2

theorem asL_stable (B e v xs) : Stable (asL B e v xs) := by
  rintro w w' F S ⟨h1, rfl⟩ hK hs
  exact ⟨keeps_row hK h1 (fun k hk => hs k (by simp [hk])), rfl⟩
theorem asP_stable (D : Dir) (S : Sit) (i : Nat) : Stable (asP D S i) := by
  intro w w' F T h hK hs
  unfold asP at h ⊢
  split at h
  · exact h
  · obtain ⟨g, R, a, h1, rfl⟩ := h
    exact ⟨g, R, a, h1.keep hK (hs _ (by simp)) (fun k hk => hs k (by simp [hk])), rfl⟩
theorem asR_stable (D : Dir) (S : Sit) (i : Nat) : Stable (asR D S i) := by
  intro w w' F T h hK hs
  unfold asR at h ⊢
  split at h
  · exact h
  · obtain ⟨lv, h1, rfl⟩ := h
    exact ⟨lv, h1.keep hK (hs _ (by simp)) (fun k hk => hs k (by simp [hk])), rfl⟩
theorem AA_stable (B lv xs wv ys D Sp Sr k) : Stable (AA B lv xs wv ys D Sp Sr k) := by
  unfold AA
  split
  · exact asL_stable _ _ _ _
  split
  · exact asL_stable _ _ _ _
  split
  · exact asP_stable _ _ _
  · exact asR_stable _ _ _

/-- the state of the play. -/
def Sta (w0 w : World) (n : Nat) (lv : Value) (xs : List Value) (wv : Value) (ys : List Value) (D : Dir) (Sp Sr : Sit) : Prop :=
  Keeps (fun _ => False) w0 w ∧ ∃ F, Fam w0.heap.size w (domS n) (AA w0.heap.size lv xs wv ys D Sp Sr) F
def upS (S : Sit) (i : Nat) (x : Bool × List Int) : Sit := fun j => if j = i then x else S j
theorem upS_at (S : Sit) (i : Nat) (x : Bool × List Int) : upS S i x i = x := by simp [upS]
theorem upS_ne (S : Sit) {i j : Nat} (x : Bool × List Int) (h : j ≠ i) : upS S i x j = S j := by simp [upS, h]

section
variable {w0 w w' : World} {n : Nat} {lv wv : Value} {xs ys : List Value} {D : Dir} {Sp Sr : Sit}
theorem Sta.quiet (h : Sta w0 w n lv xs wv ys D Sp Sr) (hK : Keeps (fun _ => False) w w') : Sta w0 w' n lv xs wv ys D Sp Sr :=
  ⟨h.1.trans hK, let ⟨F, hF⟩ := h.2; ⟨F, hF.quiet (fun _ _ => AA_stable _ _ _ _ _ _ _ _ _) hK⟩⟩
theorem Sta.rowL (h : Sta w0 w n lv xs wv ys D Sp Sr) : w.ownsRow w0.heap.size 22 1 lv xs.length xs := by
  obtain ⟨-, F, hF⟩ := h
  exact (hF.holds (0, 0) (.inl rfl)).1
theorem Sta.rowW (h : Sta w0 w n lv xs wv ys D Sp Sr) : w.ownsRow w0.heap.size 26 1 wv ys.length ys := by
  obtain ⟨-, F, hF⟩ := h
  exact (hF.holds (1, 0) (.inr (.inl rfl))).1
theorem Sta.ch (h : Sta w0 w n lv xs wv ys D Sp Sr) {i c d room : Nat} (hi : i < n) (hD : D i = some (c, d, room)) :
    ∃ g R a, Ch_i w c g R a room (Sp i).1 (ints (Sp i).2) ∧ ∀ cl L w', Did_i w c g room cl (ints L) w' → Sta w0 w' n lv xs wv ys D (upS Sp i (cl, L)) Sr := by
  obtain ⟨hK, F, hF⟩ := h
  have hd : domS n (2, i) := .inr (.inr ⟨.inl rfl, hi⟩)
  have hh := hF.holds (2, i) hd
  have hh' : asP D Sp i w (F (2, i)) := hh
  unfold asP at hh'
  rw [hD] at hh'
  obtain ⟨g, R, a, h1, h2⟩ := hh'
  have hlo := hF.lo (2, i) hd
  refine ⟨g, R, a, h1, fun cl L w' ⟨g', R', a', h3, h4, h5⟩ => ?_⟩
  have hK' : Keeps (fun b => b ∈ F (2, i)) w w' := h5.mono (fun b _ e => by
    rw [h2]
    rcases e with e | e
    · simp [e]
    · simp [← e])
  refine ⟨hK.then_ hK' (fun b hb e => by have := (hlo b e).1; omega), turn F (2, i) (c :: g'.toList), hF.turned (fun _ _ => AA_stable _ _ _ _ _ _ _ _ _) hd hK' ?_ ?_ hK.size ?_⟩
  · show asP D (upS Sp i (cl, L)) i w' _
    unfold asP
    rw [hD, upS_at]
    exact ⟨g', R', a', h3, rfl⟩
  · intro b hb
    have hlt : c < w'.heap.size := (Array.getElem?_eq_some_iff.1 h3.cell).1
    rcases List.mem_cons.1 hb with rfl | hb
    · exact ⟨.inl (by rw [h2]; simp), hlt⟩
    · have hg' : g' = some b := by simpa using hb
      have hlt2 : b < w'.heap.size := by
        rcases h3.ring with ⟨e, -⟩ | ⟨k, e1, e2, -⟩
        · rw [e] at hg'; cases hg'
        · rw [e1] at hg'; cases hg'; exact (Array.getElem?_eq_some_iff.1 e2).1
      refine ⟨?_, hlt2⟩
      rcases h4 with e | ⟨k, e, hk⟩
      · left; rw [h2, ← e, hg']; simp
      · right; rw [e] at hg'; cases hg'; exact hk
  · rintro ⟨m1, m2⟩ hm hne
    unfold AA
    by_cases e : m1 = 2
    · subst e
      have e2 : m2 ≠ i := fun e => hne (by rw [e])
      simp only [if_neg (show ¬ 2 = 0 by omega), if_neg (show ¬ 2 = 1 by omega), if_true]
      funext w F
      unfold asP
      rw [upS_ne _ _ e2]
    · simp only [if_neg e]
theorem Sta.rf (h : Sta w0 w n lv xs wv ys D Sp Sr) {i c d room : Nat} (hi : i < n) (hD : D i = some (c, d, room)) :
    ∃ rv, Rf w d rv room (Sr i).1 (Sr i).2 ∧ ∀ cl L w', Rdid w d rv room cl L w' → Sta w0 w' n lv xs wv ys D Sp (upS Sr i (cl, L)) := by
  obtain ⟨hK, F, hF⟩ := h
  have hd : domS n (3, i) := .inr (.inr ⟨.inr rfl, hi⟩)
  have hh := hF.holds (3, i) hd
  have hh' : asR D Sr i w (F (3, i)) := hh
  unfold asR at hh'
  rw [hD] at hh'
  obtain ⟨rv, h1, h2⟩ := hh'
  have hlo := hF.lo (3, i) hd
  refine ⟨rv, h1, fun cl L w' ⟨rv', h3, h4, h5⟩ => ?_⟩
  have hK' : Keeps (fun b => b ∈ F (3, i)) w w' := h5.mono (fun b _ e => by
    rw [h2]
    rcases e with e | e
    · simp [e]
    · simp [← e])
  refine ⟨hK.then_ hK' (fun b hb e => by have := (hlo b e).1; omega), turn F (3, i) (d :: rv'.ownBlock.toList), hF.turned (fun _ _ => AA_stable _ _ _ _ _ _ _ _ _) hd hK' ?_ ?_ hK.size ?_⟩
  · show asR D (upS Sr i (cl, L)) i w' _
    unfold asR
    rw [hD, upS_at]
    exact ⟨rv', h3, rfl⟩
  · intro b hb
    have hlt : d < w'.heap.size := (Array.getElem?_eq_some_iff.1 h3.cell).1
    rcases List.mem_cons.1 hb with rfl | hb
    · exact ⟨.inl (by rw [h2]; simp), hlt⟩
    · have hg' : rv'.ownBlock = some b := by simpa using hb
      have hlt2 : b < w'.heap.size := by
        rcases h3.row with ⟨e, -⟩ | ⟨k, off, cap, cur, e1, e2, -⟩
        · rw [e] at hg'; cases hg'
        · rw [e1] at hg'; simp [Value.ownBlock] at hg'; subst hg'; exact (Array.getElem?_eq_some_iff.1 e2).1
      refine ⟨?_, hlt2⟩
      rcases h4 with e | ⟨k, e, hk⟩
      · left; rw [h2, ← e, hg']; simp
      · right; rw [e] at hg'; cases hg'; exact hk
  · rintro ⟨m1, m2⟩ hm hne
    unfold AA
    by_cases e : m1 = 3
    · subst e
      have e2 : m2 ≠ i := fun e => hne (by rw [e])
      simp only [if_neg (show ¬ 3 = 0 by omega), if_neg (show ¬ 3 = 1 by omega), if_neg (show ¬ 3 = 2 by omega)]
      funext w F
      unfold asR
      rw [upS_ne _ _ e2]
    · have h3 : m1 = 0 ∨ m1 = 1 ∨ m1 = 2 := by
        rcases hm with hm | hm | ⟨hm, -⟩
        · simp at hm; omega
        · simp at hm; omega
        · simp at hm; omega
      rcases h3 with rfl | rfl | rfl <;> rfl
/-- a channel more. -/
theorem Sta.more (h : Sta w0 w n lv xs wv ys D Sp Sr) {c d room : Nat} (hK2 : Keeps (fun _ => False) w w') (hc : Ch_i w' c none [] 0 room false []) (hr : Rf w' d (.slice none 0 0) room false []) (h1 : w.heap.size ≤ c) (h2 : w.heap.size ≤ d) (h3 : c ≠ d) :
    Sta w0 w' (n + 1) lv xs wv ys (fun j => if j = n then some (c, d, room) else D j) (upS Sp n (false, [])) (upS Sr n (false, [])) := by
  obtain ⟨hK, F, hF0⟩ := h
  have hF := hF0.quiet (fun _ _ => AA_stable _ _ _ _ _ _ _ _ _) hK2
  have hcs : c < w'.heap.size := (Array.getElem?_eq_some_iff.1 hc.cell).1
  have hds : d < w'.heap.size := (Array.getElem?_eq_some_iff.1 hr.cell).1
  have hfar : ∀ b, w.heap.size ≤ b → ∀ m, domS n m → b ∉ F m := fun b hb m hm e => by have := (hF0.lo m hm b e).2; omega
  have hB := hK.size
  have same : ∀ m, domS n m → AA w0.heap.size lv xs wv ys (fun j => if j = n then some (c, d, room) else D j) (upS Sp n (false, [])) (upS Sr n (false, [])) m = AA w0.heap.size lv xs wv ys D Sp Sr m := by
    rintro ⟨m1, m2⟩ hm
    rcases hm with hm | hm | ⟨hm, hm2⟩
    · simp at hm; obtain ⟨rfl, rfl⟩ := hm; rfl
    · simp at hm; obtain ⟨rfl, rfl⟩ := hm; rfl
    · simp only at hm hm2
      have e : m2 ≠ n := by omega
      unfold AA
      rcases hm with rfl | rfl
      · simp only [if_neg (show ¬ 2 = 0 by omega), if_neg (show ¬ 2 = 1 by omega), if_true]
        funext w F; unfold asP; simp only [if_neg e, upS_ne _ _ e]
      · simp only [if_neg (show ¬ 3 = 0 by omega), if_neg (show ¬ 3 = 1 by omega), if_neg (show ¬ 3 = 2 by omega)]
        funext w F; unfold asR; simp only [if_neg e, upS_ne _ _ e]
  have S1 := hF.more (k := (2, n)) (dom2 := fun m => domS n m ∨ m = (2, n)) (A2 := AA w0.heap.size lv xs wv ys (fun j => if j = n then some (c, d, room) else D j) (upS Sp n (false, [])) (upS Sr n (false, []))) (fun m hm => hm) (F' := [c])
    (by show asP (fun j => if j = n then some (c, d, room) else D j) (upS Sp n (false, [])) n w' [c]; unfold asP; simp only [if_true, upS_at]; exact ⟨none, [], 0, hc, rfl⟩) (fun b hb => by simp at hb; subst hb; exact ⟨⟨by omega, hcs⟩, hfar b h1⟩) (fun m hm _ => same m hm)
  have S2 := S1.more (k := (3, n)) (dom2 := domS (n + 1)) (A2 := AA w0.heap.size lv xs wv ys (fun j => if j = n then some (c, d, room) else D j) (upS Sp n (false, [])) (upS Sr n (false, []))) (fun m hm => by
      rcases hm with hm | hm | ⟨hm, hm2⟩
      · exact .inl (.inl (.inl hm))
      · exact .inl (.inl (.inr (.inl hm)))
      · by_cases e : m.2 = n
        · rcases hm with hm | hm
          · exact .inl (.inr (Prod.ext hm e))
          · exact .inr (Prod.ext hm e)
        · exact .inl (.inl (.inr (.inr ⟨hm, by omega⟩)))) (F' := [d])
    (by show asR (fun j => if j = n then some (c, d, room) else D j) (upS Sr n (false, [])) n w' [d]; unfold asR; simp only [if_true, upS_at]; exact ⟨.slice none 0 0, hr, rfl⟩) (fun b hb => by
      simp at hb; subst hb
      refine ⟨⟨by omega, hds⟩, fun m hm => ?_⟩
      by_cases e : m = (2, n)
      · subst e; rw [turn_at]; simp; exact fun e => h3 e.symm
      · rw [turn_ne _ _ e]; exact hfar b h2 m (hm.resolve_right e)) (fun m hm _ => rfl)
  exact ⟨hK.trans hK2, _, S2⟩
/-- a nil one more. -/
theorem Sta.moreNil (h : Sta w0 w n lv xs wv ys D Sp Sr) :
    Sta w0 w (n + 1) lv xs wv ys (fun j => if j = n then none else D j) Sp Sr := by
  obtain ⟨hK, F, hF⟩ := h
  have same : ∀ m, domS n m → AA w0.heap.size lv xs wv ys (fun j => if j = n then none else D j) Sp Sr m = AA w0.heap.size lv xs wv ys D Sp Sr m := by
    rintro ⟨m1, m2⟩ hm
    rcases hm with hm | hm | ⟨hm, hm2⟩
    · simp at hm; obtain ⟨rfl, rfl⟩ := hm; rfl
    · simp at hm; obtain ⟨rfl, rfl⟩ := hm; rfl
    · simp only at hm hm2
      have e : m2 ≠ n := by omega
      unfold AA
      rcases hm with rfl | rfl
      · simp only [if_neg (show ¬ 2 = 0 by omega), if_neg (show ¬ 2 = 1 by omega), if_true]
        funext w F; unfold asP; simp only [if_neg e]
      · simp only [if_neg (show ¬ 3 = 0 by omega), if_neg (show ¬ 3 = 1 by omega), if_neg (show ¬ 3 = 2 by omega)]
        funext w F; unfold asR; simp only [if_neg e]
  have S1 := hF.more (k := (2, n)) (dom2 := fun m => domS n m ∨ m = (2, n)) (A2 := AA w0.heap.size lv xs wv ys (fun j => if j = n then none else D j) Sp Sr) (fun m hm => hm) (F' := [])
    (by show asP (fun j => if j = n then none else D j) Sp n w []; unfold asP; simp only [if_true]) (fun b hb => by simp at hb) (fun m hm _ => same m hm)
  have S2 := S1.more (k := (3, n)) (dom2 := domS (n + 1)) (A2 := AA w0.heap.size lv xs wv ys (fun j => if j = n then none else D j) Sp Sr) (fun m hm => by
      rcases hm with hm | hm | ⟨hm, hm2⟩
      · exact .inl (.inl (.inl hm))
      · exact .inl (.inl (.inr (.inl hm)))
      · by_cases e : m.2 = n
        · rcases hm with hm | hm
          · exact .inl (.inr (Prod.ext hm e))
          · exact .inr (Prod.ext hm e)
        · exact .inl (.inl (.inr (.inr ⟨hm, by omega⟩)))) (F' := [])
    (by show asR (fun j => if j = n then none else D j) Sr n w []; unfold asR; simp only [if_true]) (fun b hb => by simp at hb) (fun m hm _ => rfl)
  exact ⟨hK, _, S2⟩
/-- one more in l | w. -/
theorem Sta.appL (h : Sta w0 w n lv xs wv ys D Sp Sr) {lv' x : Value} (hown : w'.ownsRow w0.heap.size 22 1 lv' (xs.length + 1) (xs ++ [x])) (hgr : w.grownBy w' lv.ownBlock) (hloc : lv'.ownBlock = lv.ownBlock ∨ lv'.ownBlock = some w.heap.size) : Sta w0 w' n lv' (xs ++ [x]) wv ys D Sp Sr := by
  obtain ⟨hK, F, hF⟩ := h
  have hd : domS n (0, 0) := .inl rfl
  have hh : asL w0.heap.size 22 lv xs w (F (0, 0)) := hF.holds (0, 0) hd
  have hK' : Keeps (fun b => b ∈ F (0, 0)) w w' := (Keeps.refl _ w).grown hgr (fun k e => .inl (by rw [hh.2]; simp [e]))
  refine ⟨hK.then_ hK' (fun b hb e => by have := (hF.lo _ hd b e).1; omega), _, hF.turned (fun _ _ => AA_stable _ _ _ _ _ _ _ _ _) hd hK' (F' := lv'.ownBlock.toList) ?_ ?_ hK.size ?_⟩
  · show asL _ 22 lv' (xs ++ [x]) w' _
    exact ⟨by rw [List.length_append]; exact hown, rfl⟩
  · intro b hb
    have hb' : lv'.ownBlock = some b := by simpa using hb
    refine ⟨?_, (hown.lt b hb').2⟩
    rcases hloc with e | e
    · left; rw [hh.2, ← e, hb']; simp
    · right; rw [e] at hb'; cases hb'; exact Nat.le_refl _
  · rintro ⟨m1, m2⟩ hm hne
    have : m1 ≠ 0 := fun e => by
      subst e
      rcases hm with hm | hm | ⟨hm, -⟩
      · exact hne hm
      · simp at hm
      · simp at hm
    unfold AA
    simp only [if_neg this]
theorem Sta.appW (h : Sta w0 w n lv xs wv ys D Sp Sr) {wv' x : Value} (hown : w'.ownsRow w0.heap.size 26 1 wv' (ys.length + 1) (ys ++ [x])) (hgr : w.grownBy w' wv.ownBlock) (hloc : wv'.ownBlock = wv.ownBlock ∨ wv'.ownBlock = some w.heap.size) : Sta w0 w' n lv xs wv' (ys ++ [x]) D Sp Sr := by
  obtain ⟨hK, F, hF⟩ := h
  have hd : domS n (1, 0) := .inr (.inl rfl)
  have hh : asL w0.heap.size 26 wv ys w (F (1, 0)) := hF.holds (1, 0) hd
  have hK' : Keeps (fun b => b ∈ F (1, 0)) w w' := (Keeps.refl _ w).grown hgr (fun k e => .inl (by rw [hh.2]; simp [e]))
  refine ⟨hK.then_ hK' (fun b hb e => by have := (hF.lo _ hd b e).1; omega), _, hF.turned (fun _ _ => AA_stable _ _ _ _ _ _ _ _ _) hd hK' (F' := wv'.ownBlock.toList) ?_ ?_ hK.size ?_⟩
  · show asL _ 26 wv' (ys ++ [x]) w' _
    exact ⟨by rw [List.length_append]; exact hown, rfl⟩
  · intro b hb
    have hb' : wv'.ownBlock = some b := by simpa using hb
    refine ⟨?_, (hown.lt b hb').2⟩
    rcases hloc with e | e
    · left; rw [hh.2, ← e, hb']; simp
    · right; rw [e] at hb'; cases hb'; exact Nat.le_refl _
  · rintro ⟨m1, m2⟩ hm hne
    have : m1 ≠ 1 := fun e => by
      subst e
      rcases hm with hm | hm | ⟨hm, -⟩
      · simp at hm
      · exact hne hm
      · simp at hm
    unfold AA
    by_cases h0 : m1 = 0
    · simp only [if_pos h0]
    · simp only [if_neg h0, if_neg this]
theorem sta_none (w0 : World) (D : Dir) (Sp Sr : Sit) : Sta w0 w0 0 (.slice none 0 0) [] (.slice none 0 0) [] D Sp Sr := by
  refine ⟨Keeps.refl _ _, fun _ => [], fun k hk => ?_, fun k hk b hb => by simp at hb, fun k m _ _ _ b hb => by simp at hb⟩
  rcases hk with rfl | rfl | ⟨-, hk⟩
  · exact ⟨World.ownsRow_nil _ _ _ _, rfl⟩
  · exact ⟨World.ownsRow_nil _ _ _ _, rfl⟩
  · omega
end
end Go.Proofs.Ytmnciedkkceiaaa
