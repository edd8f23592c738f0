/- read: plain law, slices, and what the reader owns. -/
import Derived.Test.YtgebjmcdebdbmaaRefWrite
import Derived.Test.YtgebjmcdebdbmaaTake2
namespace Go.Proofs.Ytgebjmcdebdbmaa
open Go.RowKit Go.Pairs

abbrev P3 := Int × Int × Int

/-- bytes from place k on. -/
theorem run_cut {w0 : World} {so : Option Addr} {bs : List Nat} (h : BS w0 so bs) (cap k : Nat) (hk : k ≤ bs.length) (hcap : bs.length ≤ cap) :
    ∃ so', (∀ w, (Instr.slice 23 (.slice so bs.length cap) (some (.int .i64 (k : Int))) none none).run Try.prog w = .ok (.slice so' (bs.length - k) (cap - k)) w) ∧ (∀ w, BS w so bs → BS w so' (bs.drop k)) := by
  have hd : ∀ w so', k = bs.length → BS w so' (bs.drop k) := fun w so' e => by
    rw [e, List.drop_length]; exact ⟨fun i hi => by simp at hi, by simp, by simp⟩
  cases hq : Try.prog.info? 5 with
  | none => have := info5; simp [hq] at this
  | some i =>
    have hi : i.size = 1 := by have := info5; simp [hq] at this; exact this.2.1
    cases so with
    | none =>
      have h0 : bs.length = 0 := by
        rcases Nat.eq_zero_or_pos bs.length with h0 | h0
        · exact h0
        · obtain ⟨b, off, h1, -⟩ := h.1 0 h0; cases h1
      obtain rfl : k = 0 := by omega
      refine ⟨none, fun w => ?_, fun w hw => hw⟩
      simp [Instr.slice, run_underlying Try.underlying23, Instr.sliceBounds, Instr.sliceBound, asIntOf, sizeOf, typeInfo, hq, h0]
    | some ad =>
      by_cases h2 : cap = k
      · refine ⟨some ad, fun w => ?_, fun w hw => hd w _ (by omega)⟩
        simp [Instr.slice, run_underlying Try.underlying23, Instr.sliceBounds, Instr.sliceBound, asIntOf, sizeOf, typeInfo, hq, hk, h2]
      · refine ⟨some (ad.add k), fun w => ?_, fun w hw => ?_⟩
        · simp [Instr.slice, run_underlying Try.underlying23, Instr.sliceBounds, Instr.sliceBound, asIntOf, sizeOf, typeInfo, hq, hi, hk, h2]
        · refine ⟨fun j hj => ?_, fun x hx => hw.2.1 x (List.mem_of_mem_drop hx), by rw [List.length_drop]; exact Nat.le_trans (Nat.sub_le _ _) hw.2.2⟩
          rw [List.length_drop] at hj
          obtain ⟨b, off, h1, h3⟩ := hw.1 (k + j) (by omega)
          obtain rfl : ad = ⟨b, off, none⟩ := by simpa using h1
          refine ⟨b, off + k, ?_, ?_⟩
          · unfold Addr.add; split <;> simp_all
          · rw [Nat.add_assoc, h3]; simp

theorem run_top (w : World) (oa : Option Addr) (q c : Nat) (hcap : q ≤ c) (hn : oa = none → q = 0 ∧ c = 0) : (Instr.slice 35 (.slice oa q c) none (some (.int .i64 (q : Int))) (some (.int .i64 (q : Int)))).run Try.prog w = .ok (.slice oa q q) w := by
  cases oa with
  | none =>
    obtain ⟨rfl, rfl⟩ := hn rfl
    simp [Instr.slice, run_underlying Try.underlying35, Instr.sliceBounds, Instr.sliceBound, asIntOf, sizeOf]
  | some ad =>
    have h3 : ad.add 0 = ad := by unfold Addr.add; split <;> simp_all
    simp [Instr.slice, run_underlying Try.underlying35, Instr.sliceBounds, Instr.sliceBound, asIntOf, sizeOf, hcap, h3]

theorem tk_size : ∀ (i a : Nat) (l : List Nat) (q : Nat × Nat), tk i a l = some q → a < 128 ^ i → i + 1 ≤ q.2 ∧ q.2 ≤ i + l.length ∧ q.2 ≤ 10 ∧ q.1 < 18446744073709551616
  | i, a, [], q, h, _ => by simp [tk] at h
  | i, a, c :: l, q, h, ha => by
    rw [tk] at h
    split at h
    · cases h
    split at h
    · have := tk_size (i + 1) _ l q h (val_lt ha)
      rw [List.length_cons]
      omega
    split at h
    · cases h
    · rename_i h1 h2 h3
      simp at h
      subst h
      refine ⟨Nat.le_refl _, by rw [List.length_cons]; omega, by show i + 1 ≤ 10; omega, ?_⟩
      exact val_small ha (by omega) (fun e => by omega)
theorem takeN_size {l : List Nat} {q : Nat × Nat} (h : takeN l = some q) : 1 ≤ q.2 ∧ q.2 ≤ l.length ∧ q.2 ≤ 10 ∧ q.1 < 18446744073709551616 := by
  have := tk_size 0 0 l q h (by omega)
  omega

/-- zig turned round. -/
def whole (u : Nat) : Int := if u % 2 = 1 then -((u / 2 : Nat) : Int) - 1 else ((u / 2 : Nat) : Int)
def bump (l : P3) : Nat → Int → P3
  | 0, d => (l.1 + d, l.2.1, l.2.2)
  | 1, d => (l.1, l.2.1 + d, l.2.2)
  | _, d => (l.1, l.2.1, l.2.2 + d)
def step1 (m : Nat) (f : List Nat → P3 → Option (List P3)) (bs : List Nat) (l : P3) : Option (List P3) :=
  match takeN bs with
  | none => none
  | some q => if 1099511627776 < q.1 then none else f (bs.drop q.2) (bump l m (whole q.1))
def tailF (g : List Nat → P3 → Option (List P3)) : Nat → List Nat → P3 → Option (List P3)
  | 0 => step1 0 (step1 1 (step1 2 g))
  | 1 => step1 1 (step1 2 g)
  | 2 => step1 2 g
  | _ => g
def goN : Nat → List Nat → P3 → Option (List P3)
  | 0, _, _ => some []
  | K + 1, bs, l => tailF (fun bs l => (goN K bs l).map (l :: ·)) 0 bs l
def bodyN (bs : List Nat) : Option (List P3) :=
  match bs with
  | [] => none
  | c :: t => if c = 67 then (match takeN t with | none => none | some q => if 512 < q.1 then none else goN q.1 (t.drop q.2) (0, 0, 0)) else none
theorem tailF_step (g : List Nat → P3 → Option (List P3)) (m : Nat) (hm : m < 3) : tailF g m = step1 m (tailF g (m + 1)) := by
  match m, hm with
  | 0, _ => rfl
  | 1, _ => rfl
  | 2, _ => rfl

theorem whole_le {u : Nat} (h : u ≤ 1099511627776) : -1099511627776 ≤ whole u ∧ whole u ≤ 1099511627776 := by
  unfold whole; split <;> omega

def pcs (X : List P3) : List Value := X.flatMap fun x => [.int .i64 x.1, .int .i64 x.2.1, .int .i64 x.2.2]
theorem pcs_snoc (X : List P3) (x : P3) : pcs (X ++ [x]) = pcs X ++ [.int .i64 x.1, .int .i64 x.2.1, .int .i64 x.2.2] := by simp [pcs]
theorem pcs_len : ∀ X : List P3, (pcs X).length = X.length * 3
  | [] => rfl
  | x :: X => by have := pcs_len X; simp only [pcs, List.flatMap_cons, List.length_append, List.length_cons, List.length_nil] at this ⊢; omega
theorem pcs_get : ∀ (X : List P3) (i : Nat) (h : i < X.length), (pcs X)[i * 3]? = some (.int .i64 X[i].1) ∧ (pcs X)[i * 3 + 1]? = some (.int .i64 X[i].2.1) ∧ (pcs X)[i * 3 + 2]? = some (.int .i64 X[i].2.2)
  | x :: X, 0, _ => by simp [pcs]
  | x :: X, i + 1, h => by
    have := pcs_get X i (by simpa using h)
    rw [show (i + 1) * 3 = i * 3 + 1 + 1 + 1 by omega]
    simp only [pcs, List.flatMap_cons, List.cons_append, List.nil_append, List.getElem?_cons_succ, List.getElem_cons_succ] at this ⊢
    exact this
theorem info53 : (Try.prog.info? 53).map (fun i => (i.zero, i.size, i.bytes)) = some (some (.agg #[.int .i64 0, .int .i64 0, .int .i64 0]), 3, 24) := by kernel_rfl

/-- a row of the caller's reads as its points. -/
theorem pt_own {w : World} {B : Nat} {oa : Option Addr} {c : Nat} {X : List P3} (h : w.ownsRow B 53 3 (.slice oa X.length c) X.length (pcs X)) (hl : X.length ≤ 9223372036854775807) : PT w oa X := by
  refine ⟨fun i hi => ?_, hl⟩
  obtain ⟨ao, cap, h1, h2⟩ := slice_of h
  obtain ⟨g, rfl, -⟩ := h2 (by omega)
  obtain ⟨rfl, rfl⟩ : oa = some ⟨g, 0, none⟩ ∧ c = cap := by simpa using h1
  obtain ⟨g0, g1, g2⟩ := pcs_get X i hi
  refine ⟨g, 0, rfl, ?_, ?_, ?_⟩
  · rw [Nat.zero_add, h.cellAt (i * 3) (by omega)]; exact g0
  · rw [Nat.zero_add, h.cellAt (i * 3 + 1) (by omega)]; exact g1
  · rw [Nat.zero_add, h.cellAt (i * 3 + 2) (by omega)]; exact g2

/-- the reader's row, and its box of three (of type T). -/
structure RS (T : TypeId) (w W : World) (lb : Nat) (l : P3) (X : List P3) (v : Value) : Prop where
  keeps : Keeps (fun _ => False) w W
  row : W.ownsRow w.heap.size 53 3 v X.length (pcs X)
  box : W.heap[lb]? = some (.cells #[.int .i64 l.1, .int .i64 l.2.1, .int .i64 l.2.2] T (0, 0))
  new : w.heap.size ≤ lb
  ne : some lb ≠ v.ownBlock

section
variable {T : TypeId} {w W W' : World} {lb : Nat} {l : P3} {X : List P3} {v v' : Value}
theorem RS.quiet (h : RS T w W lb l X v) (hk : Keeps (fun _ => False) W W') : RS T w W' lb l X v :=
  ⟨h.keeps.trans hk, keeps_row hk h.row (by simp), (hk.block lb (Array.getElem?_eq_some_iff.1 h.box).1 (by simp)).trans h.box, h.new, h.ne⟩
theorem RS.push (h : RS T w W lb l X v) (x : P3) (hown : W'.ownsRow w.heap.size 53 3 v' (X.length + 1) (pcs X ++ [.int .i64 x.1, .int .i64 x.2.1, .int .i64 x.2.2])) (hgr : W.grownBy W' v.ownBlock) (hloc : v'.ownBlock = v.ownBlock ∨ v'.ownBlock = some W.heap.size) : RS T w W' lb l (X ++ [x]) v' := by
  have KA : Keeps (fun k => some k = v.ownBlock) W W' := (Keeps.refl _ W).grown hgr (fun k e => .inl e.symm)
  have hlt := (Array.getElem?_eq_some_iff.1 h.box).1
  refine ⟨h.keeps.then_ KA (fun i hi e => by have := own_ge h.row i e; omega), ?_, (KA.block lb hlt h.ne).trans h.box, h.new, ?_⟩
  · rw [pcs_snoc, List.length_append]; exact hown
  · rcases hloc with e | e
    · rw [e]; exact h.ne
    · rw [e]; simp; omega
theorem RS.set (h : RS T w W lb l X v) (m : Nat) (hm : m < 3) (d : Int) (u : Value) (hu : u = .int .i64 (match m with | 0 => l.1 + d | 1 => l.2.1 + d | _ => l.2.2 + d)) : RS T w (W.setCell ⟨lb, m, none⟩ u) lb (bump l m d) X v := by
  have K : Keeps (fun k => k = lb) W (W.setCell ⟨lb, m, none⟩ u) := (Keeps.refl (fun k => k = lb) W).setCell (p := ⟨lb, m, none⟩) (.inl rfl) _
  refine ⟨h.keeps.then_ K (fun i hi e => by have := h.new; omega), keeps_row K h.row (fun k e e' => h.ne (by rw [← e', e])), ?_, h.new, h.ne⟩
  have sb : (W.setCell ⟨lb, m, none⟩ u).heap[lb]? = some (.cells ((#[.int .i64 l.1, .int .i64 l.2.1, .int .i64 l.2.2] : Array Value).setIfInBounds m u) T (0, 0)) := by
    simp [World.setCell, Array.getElem?_modify, h.box]
  rw [sb, hu]
  match m, hm with
  | 0, _ => simp [bump]
  | 1, _ => simp [bump]
  | 2, _ => simp [bump]
end
end Go.Proofs.Ytgebjmcdebdbmaa
