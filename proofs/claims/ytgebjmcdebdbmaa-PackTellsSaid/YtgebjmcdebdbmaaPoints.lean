/- SamePoints; Read, the program's. -/
import Derived.Test.YtgebjmcdebdbmaaReadW
import Derived.Test.YtgebjmcdebdbmaaSmall
namespace Go.Proofs.Ytgebjmcdebdbmaa
open Go.RowKit Go.Pairs

set_option maxRecDepth 100000 in
set_option maxHeartbeats 4000000 in
theorem points_walk (w : World) (oa ob : Option Addr) (ca cb : Nat) (A B : List P3) (hA : PT w oa A) (hB : PT w ob B) :
    Calls Try.prog 20 #[.slice oa A.length ca, .slice ob B.length cb] w fun e w' => e = .returned (.bool (decide (A = B))) ∧ Keeps (fun _ => False) w w' := by
  have HA := hidp hA
  have HB := hidp hB
  have hla := hA.2
  have hlb := hB.2
  clear hA hB
  go_enter Try.func20, Try.ntmps20
  by_cases hl : A.length = B.length
  · have HL := hidp hl
    obtain ⟨L, hL⟩ : ∃ L, L = A.length := ⟨_, rfl⟩
    rw [← hl] at hlb ⊢
    rw [← hL] at hla hlb ⊢
    have HLL := hidp hL
    have t0 : ((L : Int) != L) = false := by simp
    clear hl hL
    go_wp2
    go_loopw [5] (fun i wr => ∃ k : Nat, k ≤ L ∧ i = .int .i64 k ∧ (∀ j, j < k → A[j]? = B[j]?) ∧ Keeps (fun _ => False) w wr) (fun i _ => L - (intOf i).toNat)
    case atStart => exact ⟨0, Nat.zero_le _, rfl, fun j hj => by omega, Keeps.refl _ _⟩
    case round =>
      obtain ⟨k, hk, rfl, heq, hK⟩ := hrel
      have HQ := hidp heq
      have HK := hidp hK
      clear heq hK
      by_cases hlt : k < L
      · have hka : k < A.length := by rw [← HLL.out]; exact hlt
        have hkb : k < B.length := by rw [← HL.out]; exact hka
        obtain ⟨b1, o1, h1, a0, a1, a2⟩ := (HA.out.keep HK.out).1 k hka
        obtain ⟨b2, o2, h2, e0, e1, e2⟩ := (HB.out.keep HK.out).1 k hkb
        subst h1 h2
        obtain ⟨⟨x, y, z⟩, hp⟩ : ∃ p, p = A[k] := ⟨_, rfl⟩
        obtain ⟨⟨u, v, t⟩, hq⟩ : ∃ p, p = B[k] := ⟨_, rfl⟩
        rw [← hp] at a0 a1 a2
        rw [← hq] at e0 e1 e2
        simp only at a0 a1 a2 e0 e1 e2
        have hga : A[k]? = some (x, y, z) := by rw [List.getElem?_eq_getElem hka, ← hp]
        have hgb : B[k]? = some (u, v, t) := by rw [List.getElem?_eq_getElem hkb, ← hq]
        have HGA := hidp (And.intro hga hgb)
        have t2 : decide (k < L) = true := by simpa using hlt
        have t3 : ((k : Int) < L) := by omega
        have hw : IntKind.i64.wrap ((k : Int) + 1) = k + 1 := IntWalk.i64_in _ (by omega)
        clear hka hkb hp hq hga hgb
        by_cases hpq : (x, y, z) = (u, v, t)
        · simp only [Prod.mk.injEq] at hpq
          obtain ⟨rfl, rfl, rfl⟩ := hpq
          go_wp2
          go_region_held3 (fun W => W.cell? ⟨b1, o1 + k * 3, none⟩ = some (.int .i64 x) ∧ W.cell? ⟨b1, o1 + k * 3 + 1, none⟩ = some (.int .i64 y) ∧ W.cell? ⟨b1, o1 + k * 3 + 2, none⟩ = some (.int .i64 z) ∧ W.cell? ⟨b2, o2 + k * 3, none⟩ = some (.int .i64 x) ∧ W.cell? ⟨b2, o2 + k * 3 + 1, none⟩ = some (.int .i64 y) ∧ W.cell? ⟨b2, o2 + k * 3 + 2, none⟩ = some (.int .i64 z)) (first | exact ⟨a0, a1, a2, e0, e1, e2⟩) ((first | fail))
          have HD := hidp (HK.out).drew
          clear a0 a1 a2 e0 e1 e2 t2
          go_wp2
          refine ⟨⟨k + 1, by omega, rfl, fun j hj => ?_, HD.out⟩, by simp [intOf]; omega⟩
          by_cases hj2 : j < k
          · exact HQ.out j hj2
          · obtain rfl : j = k := by omega
            rw [HGA.out.1, HGA.out.2]
        · have HNE := hidp (show ¬ A = B from fun e => hpq (by have h1 := HGA.out.1; have h2 := HGA.out.2; rw [e, h2] at h1; simpa using h1.symm))
          simp only [Prod.mk.injEq] at hpq
          by_cases hx : x = u
          · subst hx
            by_cases hy : y = v
            · subst hy
              have hz : (z == t) = false := by simp; intro e; exact hpq ⟨rfl, rfl, e⟩
              clear hpq
              go_wp2
              go_region_held3 (fun W => W.cell? ⟨b1, o1 + k * 3, none⟩ = some (.int .i64 x) ∧ W.cell? ⟨b1, o1 + k * 3 + 1, none⟩ = some (.int .i64 y) ∧ W.cell? ⟨b1, o1 + k * 3 + 2, none⟩ = some (.int .i64 z) ∧ W.cell? ⟨b2, o2 + k * 3, none⟩ = some (.int .i64 x) ∧ W.cell? ⟨b2, o2 + k * 3 + 1, none⟩ = some (.int .i64 y) ∧ W.cell? ⟨b2, o2 + k * 3 + 2, none⟩ = some (.int .i64 t)) (first | exact ⟨a0, a1, a2, e0, e1, e2⟩) ((first | fail))
              have HD := hidp (HK.out).drew
              clear a0 a1 a2 e0 e1 e2 t2
              go_wp2
              go_ret
              exact ⟨by rw [decide_eq_false HNE.out]; rfl, HD.out⟩
            · have hz : (y == v) = false := by simpa using hy
              clear hpq hy
              go_wp2
              go_region_held3 (fun W => W.cell? ⟨b1, o1 + k * 3, none⟩ = some (.int .i64 x) ∧ W.cell? ⟨b1, o1 + k * 3 + 1, none⟩ = some (.int .i64 y) ∧ W.cell? ⟨b1, o1 + k * 3 + 2, none⟩ = some (.int .i64 z) ∧ W.cell? ⟨b2, o2 + k * 3, none⟩ = some (.int .i64 x) ∧ W.cell? ⟨b2, o2 + k * 3 + 1, none⟩ = some (.int .i64 v) ∧ W.cell? ⟨b2, o2 + k * 3 + 2, none⟩ = some (.int .i64 t)) (first | exact ⟨a0, a1, a2, e0, e1, e2⟩) ((first | fail))
              have HD := hidp (HK.out).drew
              clear a0 a1 a2 e0 e1 e2 t2
              go_wp2
              go_ret
              exact ⟨by rw [decide_eq_false HNE.out]; rfl, HD.out⟩
          · have hz : (x == u) = false := by simpa using hx
            clear hpq hx
            go_wp2
            go_region_held3 (fun W => W.cell? ⟨b1, o1 + k * 3, none⟩ = some (.int .i64 x) ∧ W.cell? ⟨b1, o1 + k * 3 + 1, none⟩ = some (.int .i64 y) ∧ W.cell? ⟨b1, o1 + k * 3 + 2, none⟩ = some (.int .i64 z) ∧ W.cell? ⟨b2, o2 + k * 3, none⟩ = some (.int .i64 u) ∧ W.cell? ⟨b2, o2 + k * 3 + 1, none⟩ = some (.int .i64 v) ∧ W.cell? ⟨b2, o2 + k * 3 + 2, none⟩ = some (.int .i64 t)) (first | exact ⟨a0, a1, a2, e0, e1, e2⟩) ((first | fail))
            have HD := hidp (HK.out).drew
            clear a0 a1 a2 e0 e1 e2 t2
            go_wp2
            go_ret
            exact ⟨by rw [decide_eq_false HNE.out]; rfl, HD.out⟩
      · obtain rfl : k = L := by omega
        have t2 : decide (k < k) = false := by simp
        have hab : A = B := by
          apply List.ext_getElem? 
          intro j
          by_cases hj : j < k
          · exact HQ.out j hj
          · rw [List.getElem?_eq_none (by rw [← HLL.out]; omega), List.getElem?_eq_none (by rw [← HL.out, ← HLL.out]; omega)]
        have HAB := hidp hab
        clear hab
        go_wp2
        go_ret
        exact ⟨by rw [decide_eq_true HAB.out]; rfl, HK.out⟩
  · have t0 : ((A.length : Int) != B.length) = true := by simp; omega
    have HN := hidp (show ¬ A = B from fun e => hl (by rw [e]))
    clear hl
    go_wp2
    go_ret
    exact ⟨by rw [decide_eq_false HN.out]; rfl, Keeps.refl _ _⟩
end Go.Proofs.Ytgebjmcdebdbmaa
