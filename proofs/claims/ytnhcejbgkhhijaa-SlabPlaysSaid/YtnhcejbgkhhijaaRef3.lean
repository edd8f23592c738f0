/- The document's slab: All. -/
import Derived.Test.YtnhcejbgkhhijaaRef2
import Derived.Test.YtnhcejbgkhhijaaIter
import Derived.Test.YtnhcejbgkhhijaaOnceR
import Derived.Deep.RegionHeld3
namespace Go.Proofs.Ytnhcejbgkhhijaa
open Go.RowKit Go.Pairs

theorem info54 : (Try.prog.info? 54).map (fun i => (i.zero, i.size, i.bytes)) = some (some (.agg #[.int .i64 0, .int .i64 0, .int .i64 0]), 3, 24) := by kernel_rfl

/-- items as cells. -/
def itc (X : List (Nat × Nat × Int)) : List Value := X.flatMap fun x => [.int .i64 x.1, .int .i64 x.2.1, .int .i64 x.2.2]
theorem itc_snoc (X : List (Nat × Nat × Int)) (x : Nat × Nat × Int) : itc (X ++ [x]) = itc X ++ [.int .i64 x.1, .int .i64 x.2.1, .int .i64 x.2.2] := by simp [itc]
theorem itc_len : ∀ X : List (Nat × Nat × Int), (itc X).length = X.length * 3
  | [] => rfl
  | x :: X => by have := itc_len X; simp only [itc, List.flatMap_cons, List.length_append, List.length_cons, List.length_nil] at this ⊢; omega
theorem itc_get : ∀ (X : List (Nat × Nat × Int)) (i : Nat) (h : i < X.length), (itc X)[i * 3]? = some (.int .i64 X[i].1) ∧ (itc X)[i * 3 + 1]? = some (.int .i64 X[i].2.1) ∧ (itc X)[i * 3 + 2]? = some (.int .i64 X[i].2.2)
  | x :: X, 0, _ => by simp [itc]
  | x :: X, i + 1, h => by
    have := itc_get X i (by simpa using h)
    rw [show (i + 1) * 3 = i * 3 + 1 + 1 + 1 by omega]
    simp only [itc, List.flatMap_cons, List.cons_append, List.nil_append, List.getElem?_cons_succ, List.getElem_cons_succ] at this ⊢
    exact this

theorem grown_cell {W W' : World} {row : Option Nat} (h : W.grownBy W' row) {p : Addr} {u : Value} (hc : W.cell? p = some u) (hr : some p.block ≠ row) : W'.cell? p = some u :=
  (cell_of_heap (h.block p.block (lt_of_cell hc) hr)).trans hc

theorem own_ge {w : World} {B e sz : Nat} {v : Value} {n : Nat} {xs : List Value} (h : w.ownsRow B e sz v n xs) (k : Nat) (hk : some k = v.ownBlock) : B ≤ k := by
  rcases h.2 with ⟨h1, h2⟩ | ⟨g, cap, cur, h1, h2, -⟩
  · subst h1; simp [Value.ownBlock] at hk
  · subst h1; simp [Value.ownBlock] at hk; omega

set_option maxHeartbeats 4000000 in
theorem rall {w : World} {c : Nat} {v : Value} {g : Option Nat} {L : List Cl} (h : RF w c v g L) :
    Calls Try.prog 19 #[.pointer (some ⟨c, 0, none⟩)] w fun e w' => (∃ o, e = .returned o ∧ w'.ownsRow w.heap.size 54 3 o (its L L.length).length (itc (its L L.length))) ∧ Keeps (fun _ => False) w w' := by
  obtain ⟨i0, hi, hz0, hz1, hz2⟩ := info_parts info54
  have hcs := (Array.getElem?_eq_some_iff.1 h.cell).1
  obtain ⟨ao, cp, rfl⟩ := row_len h.row
  have hlen := h.len
  have HH := hidp h
  clear h
  go_enter Try.func19, Try.ntmps19
  go_wp2
  go_loopw [3, 4] (fun o i wr => ∃ k : Nat, k ≤ L.length ∧ i = .int .i64 k ∧ wr.ownsRow w.heap.size 54 3 o (its L k).length (itc (its L k)) ∧ Keeps (fun _ => False) w wr) (fun _ i _ => L.length - (intOf i).toNat)
  case atStart => exact ⟨0, Nat.zero_le _, rfl, World.ownsRow_nil w w.heap.size 54 3, Keeps.refl _ _⟩
  case round =>
    obtain ⟨k, hk, rfl, hown, hK⟩ := hrel
    have hr := HH.out.keep hK (by simp) (by simp)
    have c0 : wr.cell? ⟨c, 0, none⟩ = some (.slice ao L.length cp) := cells_at hr.cell 0
    by_cases hlt : k < L.length
    · obtain ⟨kb, cap, rfl, he, hc1, hc2, r0, r1, r2⟩ := row_read hr.row hlt
      obtain ⟨rfl, rfl⟩ : ao = some ⟨kb, 0, none⟩ ∧ cp = cap := by simpa using he
      have hkb : kb < w.heap.size := by
        obtain ⟨k', cap', h1, -, -, -, h2, -⟩ := row_read HH.out.row hlt
        obtain rfl : kb = k' := by simpa using h1
        exact lt_of_cell h2
      obtain ⟨x, hx⟩ := HH.out.els L[k] (List.getElem_mem hlt)
      rw [hx] at r2
      have hix : intOf L[k].x = x := by rw [hx]; rfl
      have t1 : decide (k < L.length) = true := by simpa using hlt
      have t2 : ((k : Int) < L.length) := by omega
      have hw : IntKind.i64.wrap ((k : Int) + 1) = k + 1 := IntWalk.i64_in _ (by omega)
      have HIX := hidp hix
      cases hh : L[k].has with
      | true =>
        rw [hh] at r1
        have HHH := hidp hh
        have hil := its_len L k
        obtain ⟨oa, oc, rfl, -⟩ := slice_of hown
        have HO := hidp hown
        have HK := hidp hK
        obtain ⟨G, hG⟩ : ∃ G : Nat, G = L[k].gen := ⟨_, rfl⟩
        rw [← hG] at r0
        have HG := hidp hG
        obtain ⟨Y, hY⟩ : ∃ Y, Y = its L k := ⟨_, rfl⟩
        rw [← hY] at HO hil ⊢
        have HY := hidp hY
        clear hr he hx hix hh hown hK hG hY
        have HNC := hidp (show some c ≠ (Value.slice oa Y.length oc).ownBlock ∧ some kb ≠ (Value.slice oa Y.length oc).ownBlock from ⟨fun e => by have := own_ge HO.out c e; omega, fun e => by have := own_ge HO.out kb e; omega⟩)
        clear hkb
        have K1 := (Keeps.refl (fun _ => False) wr).alloc (.cells #[.int .i64 k, .int .i64 G, .int .i64 x] 54)
        have HSA := hidp (And.intro (K1.cell c0 (by simp)) (And.intro (K1.cell r0 (by simp)) (K1.cell r2 (by simp))))
        clear K1
        go_wp2_with fail
        go_region_held3 (fun W => W.cell? ⟨c, 0, none⟩ = some (.slice (some ⟨kb, 0, none⟩) L.length cp) ∧ W.cell? ⟨kb, k * 3, none⟩ = some (.int .i64 G) ∧ W.cell? ⟨kb, k * 3 + 2, none⟩ = some (.int .i64 x)) (first | exact ⟨c0, r0, r2⟩ | exact HSA.out | exact ⟨grown_cell hgr8 HSA.out.1 HNC.out.1, grown_cell hgr8 HSA.out.2.1 HNC.out.2, grown_cell hgr8 HSA.out.2.2 HNC.out.2⟩) ((first
          | (refine step_append_at rfl (.tmp 22) (.tmp 42) 43 (by rfl) w.heap.size 54 i0 (.agg #[.int .i64 0, .int .i64 0, .int .i64 0]) 3 24 Try.underlying43 hi hz0 hz1 hz2 rfl (by decide) (.slice oa Y.length oc) Y.length (itc Y) (by rfl) (HO.out.alloc _) ⟨wr.heap.size, 0, none⟩ 1 1 [.int .i64 k, .int .i64 G, .int .i64 x] (by rfl) (by rfl) (cell_three_new _ _ _ _ _) (by intro u hu; simp at hu; rcases hu with rfl | rfl | rfl <;> rfl) (by unfold maxLen; omega) (by omega) (by have := HK.out.size; simp; omega) ?_; intro v1 w8 hown8 hgr8 hnil8 hloc8)))
        have K8 : Keeps (fun _ => False) w w8 := ((HK.out.drew).alloc _).grown hgr8 (fun j hj => .inr (own_ge HO.out j hj.symm))
        have HF := hidp (And.intro hown8 K8)
        clear hown8 hgr8 hnil8 hloc8 K8 c0 r0 r1 r2 HSA HNC
        go_wp2
        go_roundw
        case rel =>
          refine ⟨k + 1, by omega, by simp, ?_, HF.out.2⟩
          rw [its_yes hlt HHH.out, HIX.out, ← HG.out, ← HY.out, itc_snoc]
          have := HF.out.1
          simpa using this
        case measure => simp [intOf]; omega
      | false =>
        rw [hh] at r1
        have HHH := hidp hh
        have HK := hidp hK
        have HO := hidp hown
        clear hr he hx hix hh hown hK r0 r2
        go_wp2
        go_roundw
        case rel =>
          refine ⟨k + 1, by omega, by simp, ?_, HK.out⟩
          rw [its_no hlt HHH.out]
          exact HO.out
        case measure => simp [intOf]; omega
    · obtain rfl : k = L.length := by omega
      have t1 : decide (L.length < L.length) = false := by simp
      clear hr
      go_wp2
      go_ret
      exact ⟨⟨_, rfl, hown⟩, hK⟩
end Go.Proofs.Ytnhcejbgkhhijaa
