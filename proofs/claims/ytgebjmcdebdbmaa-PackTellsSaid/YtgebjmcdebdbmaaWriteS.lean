/- Write: plain law, and what the caller owns while it writes. -/
import Derived.Test.YtgebjmcdebdbmaaCheck2
import Derived.Laws.OwnMore
namespace Go.Proofs.Ytgebjmcdebdbmaa
open Go.RowKit Go.Pairs

/-- the point ahead of the k-th. -/
def pv (ps : List (Int × Int × Int)) : Nat → Int × Int × Int
  | 0 => (0, 0, 0)
  | k + 1 => ps.getD k (0, 0, 0)
def u1 (a b : Int) : List Nat := uintN (zig (a - b))
def stx (ps : List (Int × Int × Int)) (k : Nat) : List Nat := u1 (ps.getD k (0, 0, 0)).1 (pv ps k).1
def sty (ps : List (Int × Int × Int)) (k : Nat) : List Nat := u1 (ps.getD k (0, 0, 0)).2.1 (pv ps k).2.1
def stz (ps : List (Int × Int × Int)) (k : Nat) : List Nat := u1 (ps.getD k (0, 0, 0)).2.2 (pv ps k).2.2
def bodyK (ps : List (Int × Int × Int)) : Nat → List Nat
  | 0 => []
  | k + 1 => bodyK ps k ++ (stx ps k ++ sty ps k ++ stz ps k)
def front (ps : List (Int × Int × Int)) (k : Nat) : List Nat := (67 :: uintN ps.length) ++ bodyK ps k
def writeN (ps : List (Int × Int × Int)) : List Nat := front ps ps.length ++ fourN (sumN (front ps ps.length))

theorem zig_lt {n : Int} (h1 : -4611686018427387904 < n) (h2 : n < 4611686018427387904) : zig n < 18446744073709551616 := by
  unfold zig; split <;> omega
theorem front_succ (ps : List (Int × Int × Int)) (k : Nat) : front ps (k + 1) = front ps k ++ (stx ps k ++ sty ps k ++ stz ps k) := by simp [front, bodyK]
theorem u1_lt (a b : Int) : ∀ x ∈ u1 a b, x < 256 := uintN_lt _
theorem bodyK_lt (ps : List (Int × Int × Int)) : ∀ k, ∀ x ∈ bodyK ps k, x < 256
  | 0 => by simp [bodyK]
  | k + 1 => by
    intro x hx
    simp only [bodyK, List.mem_append] at hx
    rcases hx with hx | (hx | hx) | hx
    · exact bodyK_lt ps k x hx
    · exact u1_lt _ _ x hx
    · exact u1_lt _ _ x hx
    · exact u1_lt _ _ x hx
theorem front_lt (ps : List (Int × Int × Int)) (k : Nat) : ∀ x ∈ front ps k, x < 256 := by
  intro x hx
  simp only [front, List.cons_append, List.mem_cons, List.mem_append] at hx
  rcases hx with rfl | hx | hx
  · omega
  · exact uintN_lt _ x hx
  · exact bodyK_lt ps k x hx

theorem bs_news {w : World} {ad : Addr} {bs : List Nat} (h : BS w (some ad) bs) : ∀ j u, (byts bs)[j]? = some u → w.cell? (ad.add j) = some u := by
  intro j v hj
  have hj2 : j < bs.length := by rw [← byts_len bs]; exact (List.getElem?_eq_some_iff.1 hj).1
  obtain ⟨b, off, h1, h2⟩ := h.1 j hj2
  obtain rfl : ad = ⟨b, off, none⟩ := by simpa using h1
  have hv : v = .int .u8 bs[j] := by
    have : (byts bs)[j]? = some (.int .u8 bs[j]) := by simp [byts, hj2]
    rw [this] at hj; simpa using hj.symm
  rw [hv, ← h2]
  congr 1
  unfold Addr.add
  split <;> simp_all
theorem byts_one (bs : List Nat) : ∀ u ∈ byts bs, u.oneCell' = true := by
  intro u hu
  simp only [byts, List.mem_map] at hu
  obtain ⟨x, -, rfl⟩ := hu
  rfl

/-- the caller's row, and the box of the last point. -/
structure WS (w W : World) (lb : Nat) (l : Int × Int × Int) (bs : List Nat) (v : Value) : Prop where
  keeps : Keeps (fun _ => False) w W
  row : W.ownsRow w.heap.size 5 1 v bs.length (byts bs)
  box : W.heap[lb]? = some (.cells #[.int .i64 l.1, .int .i64 l.2.1, .int .i64 l.2.2] 53 (0, 0))
  new : w.heap.size ≤ lb
  ne : some lb ≠ v.ownBlock

section
variable {w W W' : World} {lb : Nat} {l : Int × Int × Int} {bs us : List Nat} {v v' : Value}
theorem WS.quiet (h : WS w W lb l bs v) (hk : Keeps (fun _ => False) W W') : WS w W' lb l bs v :=
  ⟨h.keeps.trans hk, keeps_row hk h.row (by simp), (hk.block lb (Array.getElem?_eq_some_iff.1 h.box).1 (by simp)).trans h.box, h.new, h.ne⟩
theorem WS.push (h : WS w W lb l bs v) (hown : W'.ownsRow w.heap.size 5 1 v' (bs.length + us.length) (byts bs ++ byts us)) (hgr : W.grownBy W' v.ownBlock) (hloc : v'.ownBlock = v.ownBlock ∨ v'.ownBlock = some W.heap.size) : WS w W' lb l (bs ++ us) v' := by
  have KA : Keeps (fun k => some k = v.ownBlock) W W' := (Keeps.refl _ W).grown hgr (fun k e => .inl e.symm)
  have hlt := (Array.getElem?_eq_some_iff.1 h.box).1
  refine ⟨h.keeps.then_ KA (fun i hi e => by have := own_ge h.row i e; omega), ?_, (KA.block lb hlt h.ne).trans h.box, h.new, ?_⟩
  · rw [byts_app, List.length_append]; exact hown
  · rcases hloc with e | e
    · rw [e]; exact h.ne
    · rw [e]; simp; omega
theorem WS.last (h : WS w W lb l bs v) (x y z : Int) : WS w (((W.setCell ⟨lb, 0, none⟩ (.int .i64 x)).setCell ⟨lb, 1, none⟩ (.int .i64 y)).setCell ⟨lb, 2, none⟩ (.int .i64 z)) lb (x, y, z) bs v := by
  have K : Keeps (fun k => k = lb) W (((W.setCell ⟨lb, 0, none⟩ (.int .i64 x)).setCell ⟨lb, 1, none⟩ (.int .i64 y)).setCell ⟨lb, 2, none⟩ (.int .i64 z)) := (((Keeps.refl (fun k => k = lb) W).setCell (p := ⟨lb, 0, none⟩) (.inl rfl) _).setCell (p := ⟨lb, 1, none⟩) (.inl rfl) _).setCell (p := ⟨lb, 2, none⟩) (.inl rfl) _
  have sb : ∀ {w : World} {c : Nat} {cs : Array Value} {t : TypeId} {fr : Nat × Nat} (_ : w.heap[c]? = some (.cells cs t fr)) (o : Nat) (u : Value), (w.setCell ⟨c, o, none⟩ u).heap[c]? = some (.cells (cs.setIfInBounds o u) t fr) := by
    intro w c cs t fr h o u
    simp [World.setCell, Array.getElem?_modify, h]
  refine ⟨h.keeps.then_ K (fun i hi e => by have := h.new; omega), keeps_row K h.row (fun k e e' => h.ne (by rw [← e', e])), ?_, h.new, h.ne⟩
  rw [sb (sb (sb h.box 0 _) 1 _) 2 _]
  simp
end
end Go.Proofs.Ytgebjmcdebdbmaa
