/- all: that a slab and the document's tell the same. -/
import Derived.Test.YtnhcejbgkhhijaaRef4
import Derived.Test.YtnhcejbgkhhijaaGatherW
import Derived.Sort.QuietIn
import Derived.Sort.BigQuietIn
import Derived.Deep.RegionHeld3
namespace Go.Proofs.Ytnhcejbgkhhijaa
open Go.RowKit Go.Pairs Go.Shelf
attribute [local go_sem] Oper.semAt_some

section
variable {F : Fence} {n : Nat} {P : Program} {l : Nat}
def noDefers (ops : Array Oper) : Bool := ops.all fun o => match o.op with | .defer _ => false | _ => true
theorem noDefers_spec {ops : Array Oper} (h : noDefers ops = true) : ∀ (i : Nat) (o : Oper), ops[i]? = some o → ∀ c, o.op ≠ .defer c := by
  intro i o ho c hc
  have := Array.all_eq_true.1 h i (Array.getElem?_eq_some_iff.1 ho).1
  rw [(Array.getElem?_eq_some_iff.1 ho).2, hc] at this
  simp at this

theorem uponIn_inRound {o : Oper} {a : Act} {K : Act → World → Prop} {Q : Exit → Act → World → Prop} {r : Result Next} (h : o.uponIn F n P a K Q r) : o.uponIn (F.inRound l) n P a K Q r := by
  cases r with
  | ok x w => cases x <;> exact h
  | halt x w => cases x <;> exact h

theorem wpIn_inRound {o : Oper} (hro : F.round = none) (hnd : ∀ c, o.op ≠ .defer c) {a : Act} {w : World} {K : Act → World → Prop} {Q : Exit → Act → World → Prop} (h : Oper.wpIn F n P o a w K Q) : Oper.wpIn (F.inRound l) n P o a w K Q := by
  obtain ⟨h1, h2⟩ := h
  refine ⟨h1, ?_⟩
  rw [hro, Oper.semAt_eq _ _ _ hnd] at h2
  rw [Oper.semAt_eq _ _ _ hnd]
  exact uponIn_inRound h2

theorem wpAnyIn_inRound (hro : F.round = none) {md : Region.Mode} {ops : Array Oper} (hnd : ∀ (i : Nat) (o : Oper), ops[i]? = some o → ∀ c, o.op ≠ .defer c) {Q : Exit → Act → World → Prop} : ∀ (fuel : Nat) (listed : Array Bool) (a : Act) (w : World), wpAnyIn F n P md ops Q fuel listed a w → wpAnyIn (F.inRound l) n P md ops Q fuel listed a w
  | 0, _, _, _, h => h
  | fuel + 1, listed, a, w, h => by
    refine ⟨h.1, fun i hi => ?_⟩
    have h2 := wpOpIn_mono (fun a' w' h3 => wpAnyIn_inRound hro hnd fuel _ a' w' h3) (h.2 i hi)
    unfold wpOpIn at h2 ⊢
    split
    · rename_i ho
      simpa [ho] using h2
    · rename_i o ho
      simp only [ho] at h2
      split
      · rename_i hw
        simp only [hw, if_true] at h2
        exact wpIn_inRound hro (hnd i o ho) h2
      · rename_i hw
        simp only [hw] at h2
        exact h2

/-- a region that only reads, in a round. -/
theorem wpIn_region_quiet_round {id : Nat} {Q : Exit → Act → World → Prop} {a : Act} {w : World} {ops : List Oper} (hro : F.round = none) (hnd : noDefers ops.toArray = true) (hm : P.follows .mixedOrders = true) (hB : Region.lexB .any ops.toArray = true)
    (h : wpQuietIn F n P ops.toArray (fun w' => ∃ n, w' = w.drewN n) (fun a' => ∀ w', (∃ n, w' = w.drewN n) → Q .normal a' w') ops a) : (Code.region id ops.toArray true).wpIn (F.inRound l) n P Q a w := by
  simp only [Region.lexB, Bool.and_eq_true] at hB
  refine wpIn_region_any hm (wpAnyIn_inRound hro (noDefers_spec hnd) _ _ _ _ (wpAnyIn_of_quiet (C := fun w' => ∃ n, w' = w.drewN n) (Q := fun a' => ∀ w', (∃ n, w' = w.drewN n) → Q .normal a' w') hro (fun _ w' hw' h => h w' hw') _ _ _ _ ⟨1, rfl⟩ ?_))
  have := wpAnyQIn_lex (F := F) (n := n) (C := fun w' => ∃ n, w' = w.drewN n) (md := .any) hB.1 ops 0 (Array.replicate ops.toArray.size false) a (by simp) (by simpa using hB.2) (by simpa using h)
  simpa using this
end

theorem cnt_snoc (M : List Cl) (d : Cl) : cnt (M ++ [d]) = cnt M + if d.has then 1 else 0 := by
  cases hd : d.has <;> simp [cnt, hd]
theorem cnt_take (L : List Cl) : ∀ k, k ≤ L.length → (its L k).length = cnt (L.take k)
  | 0, _ => by simp [its, cnt]
  | k + 1, h => by
    have hk : k < L.length := by omega
    have ih := cnt_take L k (by omega)
    rw [List.take_succ_eq_append_getElem hk, cnt_snoc, ← ih]
    cases hh : L[k].has with
    | true => rw [its_yes hk hh]; simp
    | false => rw [its_no hk hh]; simp
theorem own_mono {w : World} {B B' e sz : Nat} {v : Value} {n : Nat} {xs : List Value} (h : w.ownsRow B e sz v n xs) (hb : B' ≤ B) : w.ownsRow B' e sz v n xs := by
  rcases h with ⟨h1, h2 | ⟨g, cap, cur, h2, h3, h4⟩⟩
  · exact ⟨h1, .inl h2⟩
  · exact ⟨h1, .inr ⟨g, cap, cur, h2, Nat.le_trans hb h3, h4⟩⟩
theorem its_cnt (L : List Cl) : (its L L.length).length = cnt L := by rw [cnt_take L _ (Nat.le_refl _), List.take_length]

theorem keeps_drew0 {S : Nat → Prop} (W : World) (m : Nat) : Keeps S W (W.drewN m) := keeps_drewN (Keeps.refl S W) m
theorem KeepsOthers.of_keepsN (W : World) (m : Nat) : KeepsOthers W (W.drewN m) := ⟨Nat.le_refl _, fun _ _ h _ => h⟩

/-- the part that came is a beginning of the whole. -/
theorem its_take (L : List Cl) (k : Nat) (hk : k ≤ L.length) : ∀ m, k + m ≤ L.length → its L k = (its L (k + m)).take (its L k).length
  | 0, _ => by simp
  | m + 1, h => by
    have ih := its_take L k hk m (by omega)
    have hl : k + m < L.length := by omega
    cases hh : L[k + m].has with
    | true =>
      rw [show k + (m + 1) = k + m + 1 by omega, its_yes hl hh]
      have hle : (its L k).length ≤ (its L (k + m)).length := by
        have := congrArg List.length ih
        rw [List.length_take] at this
        omega
      rw [List.take_append_of_le_length hle]
      exact ih
    | false => rw [show k + (m + 1) = k + m + 1 by omega, its_no hl hh]; exact ih
theorem its_take' (L : List Cl) (k : Nat) (hk : k ≤ L.length) : its L k = (its L L.length).take (its L k).length := by
  have := its_take L k hk (L.length - k) (by omega)
  rwa [show k + (L.length - k) = L.length by omega] at this

/-- the boxes of all. -/
structure AI (w W : World) (b4 b5 b6 : Nat) (o : Value) (T : List (Nat × Nat × Int)) (n : Nat) : Prop where
  keeps : Keeps (fun _ => False) w W
  c4 : W.heap[b4]? = some (.cells #[.bool false] 4 (0, 0))
  c5 : W.heap[b5]? = some (.cells #[o] 43 (0, 0))
  c6 : W.heap[b6]? = some (.cells #[.int .i64 n] 3 (0, 0))
  row : W.ownsRow w.heap.size 54 3 o T.length (itc T)
  ge : w.heap.size ≤ b4 ∧ w.heap.size ≤ b5 ∧ w.heap.size ≤ b6

theorem AI.turn {w W W' : World} {b4 b5 b6 : Nat} {o : Value} {T : List (Nat × Nat × Int)} {n : Nat} (h : AI w W b4 b5 b6 o T n) {row : Option Nat} (hg : W.grownBy W' row) (hr : ∀ r, row = some r → w.heap.size ≤ r ∧ ∃ o : Obj, W.heap[r]? = some o ∧ o.isCells = false) : AI w W' b4 b5 b6 o T n := by
  have K : Keeps (fun k => some k = row) W W' := (Keeps.refl _ _).grown hg (fun k e => .inl e.symm)
  have hn : ∀ k cs t, W.heap[k]? = some (Obj.cells cs t (0, 0)) → ¬ some k = row := by
    intro k cs t hk e
    obtain ⟨-, o, ho, hc⟩ := hr k e.symm
    rw [hk] at ho; cases ho; simp [Obj.isCells] at hc
  have hk : ∀ k cs t, W.heap[k]? = some (Obj.cells cs t (0, 0)) → W'.heap[k]? = some (Obj.cells cs t (0, 0)) := fun k cs t h1 => (K.block k (Array.getElem?_eq_some_iff.1 h1).1 (hn k cs t h1)).trans h1
  refine ⟨h.keeps.then_ K (fun i hi e => by have := (hr i e.symm).1; omega), hk _ _ _ h.c4, hk _ _ _ h.c5, hk _ _ _ h.c6, keeps_row K h.row (fun k e => ?_), h.ge⟩
  obtain ⟨cur, hcur⟩ := own_cells h.row e.symm
  exact hn _ _ _ hcur

theorem AI.quiet {w W W' : World} {b4 b5 b6 : Nat} {o : Value} {T : List (Nat × Nat × Int)} {n : Nat} (h : AI w W b4 b5 b6 o T n) (hk : Keeps (fun _ => False) W W') : AI w W' b4 b5 b6 o T n := by
  have k : ∀ k cs t, W.heap[k]? = some (Obj.cells cs t (0, 0)) → W'.heap[k]? = some (Obj.cells cs t (0, 0)) := fun k cs t h1 => (hk.block k (Array.getElem?_eq_some_iff.1 h1).1 (by simp)).trans h1
  exact ⟨h.keeps.trans hk, k _ _ _ h.c4, k _ _ _ h.c5, k _ _ _ h.c6, keeps_row hk h.row (by simp), h.ge⟩

theorem AI.drewN {w W : World} {b4 b5 b6 : Nat} {o : Value} {T : List (Nat × Nat × Int)} {n : Nat} (h : AI w W b4 b5 b6 o T n) (m : Nat) : AI w (W.drewN m) b4 b5 b6 o T n :=
  ⟨keeps_drewN h.keeps m, h.c4, h.c5, h.c6, h.row, h.ge⟩

theorem AI.next {w W : World} {b4 b5 b6 : Nat} {o : Value} {T : List (Nat × Nat × Int)} {n : Nat} (h : AI w W b4 b5 b6 o T n) : AI w (W.setCell ⟨b6, 0, none⟩ (.int .i64 ((n : Int) + 1))) b4 b5 b6 o T (n + 1) ∧ Keeps (fun k => k = b6) W (W.setCell ⟨b6, 0, none⟩ (.int .i64 ((n : Int) + 1))) := by
  have K : Keeps (fun k => k = b6) W (W.setCell ⟨b6, 0, none⟩ (.int .i64 ((n : Int) + 1))) := (Keeps.refl (fun k => k = b6) W).setCell (p := ⟨b6, 0, none⟩) (.inl rfl) _
  have n4 : b4 ≠ b6 := by rintro rfl; have := h.c4; rw [h.c6] at this; simp at this
  have n5 : b5 ≠ b6 := by rintro rfl; have := h.c5; rw [h.c6] at this; simp at this
  refine ⟨⟨h.keeps.then_ K (fun i hi e => by have := h.ge; omega), (K.block _ (Array.getElem?_eq_some_iff.1 h.c4).1 n4).trans h.c4, (K.block _ (Array.getElem?_eq_some_iff.1 h.c5).1 n5).trans h.c5, ?_, keeps_row K h.row (fun k e e' => ?_), h.ge⟩, K⟩
  · rw [setCell_block h.c6]; simp
  · subst e'
    obtain ⟨cur, hcur⟩ := own_cells h.row e.symm
    rw [h.c6] at hcur; simp at hcur

/-- the activation behind the assignment. -/
def FramA (b4 b5 b6 : Nat) (x : Nat × Nat × Int) (a' : Act) (W : World) : Prop :=
  ∃ (bh : Nat) (y0 y1 y2 y3 y9 y10 y11 y12 y13 y14 y15 y16 y17 y18 y19 y20 y21 y22 y23 y24 y25 y26 y27 y28 y29 y30 y31 y32 y33 y34 y35 y36 y37 y38 y39 y40 y41 y42 y43 y44 y45 y46 y47 y48 : Value), W.heap[bh]? = some (.cells #[.int .i64 x.1, .int .i64 x.2.1] 27 (0, 0)) ∧ a' = { tmps := #[y0, y1, y2, y3, .pointer (some ⟨b4, 0, none⟩), .pointer (some ⟨b5, 0, none⟩), .pointer (some ⟨b6, 0, none⟩), .pointer (some ⟨bh, 0, none⟩), .int .i64 x.2.2, y9, y10, y11, y12, y13, y14, y15, y16, y17, y18, y19, y20, y21, y22, y23, y24, y25, y26, y27, y28, y29, y30, y31, y32, y33, y34, y35, y36, y37, y38, y39, y40, y41, y42, y43, y44, y45, y46, y47, y48], defers := [] }

set_option maxRecDepth 100000 in
set_option maxHeartbeats 4000000 in
theorem all18 (w : World) (s c : Nat) (L R : List Cl) (v v' : Value) (g g' : Option Nat) (low : Nat) (hS : SL_i w s v g L low) (hR : RF w c v' g' R) (h : Same L R) :
    Calls Try.prog 18 #[.pointer (some ⟨s, 0, none⟩), .pointer (some ⟨c, 0, none⟩)] w fun e w' => e = .returned (.bool true) ∧ Keeps (fun _ => False) w w' := by
  refine (callsIn_wide (n := 3)).1 ?_
  refine callsIn_of_wp_marks Try.func18 rfl trivial ?_ rfl
  simp only [Try.ntmps18, List.size_toArray, List.length_cons, List.length_nil, Nat.reduceAdd, Nat.reduceSub, Array.replicate_succ, Array.replicate_zero, List.push_toArray, List.append_toArray, List.nil_append, List.cons_append]
  have hLl := hS.len
  have hcw := (Array.getElem?_eq_some_iff.1 hR.cell).1
  have hsw := (Array.getElem?_eq_some_iff.1 hS.cell).1
  obtain ⟨W1, hW1⟩ : ∃ W1, W1 = w.alloc (.cells #[.bool false] 4) := ⟨_, rfl⟩
  have K1 : Keeps (fun _ => False) w W1 := hW1 ▸ (Keeps.refl _ _).alloc _
  have d4 : W1.heap[w.heap.size]? = some (.cells #[.bool false] 4 (0, 0)) := hW1 ▸ heap_alloc_new _ _
  have CR := rall (hR.keep K1 (by simp) (by simp))
  rw [← same_all h] at CR
  obtain ⟨T, hT⟩ : ∃ T, T = its L L.length := ⟨_, rfl⟩
  rw [← hT] at CR
  have HT := hidp hT
  have HC := hidp CR
  have HK1 := hidp (And.intro K1 d4)
  have HS := hidp hS
  have hs1 : W1.heap.size = w.heap.size + 1 := by rw [hW1]; simp
  have HS1 := hidp hs1
  clear CR hT K1 d4 hS hR hs1
  gi_wp2
  rw [← hW1]
  clear hW1
  refine ⟨trivial, (callsIn_wide.2 HC.out).mono ?_⟩
  rintro e W2 ⟨⟨o, rfl, hown⟩, K2⟩
  obtain ⟨oa, oc, rfl, -⟩ := slice_of hown
  have d4 := (K2.block _ (by have := HS1.out; omega) (by simp)).trans HK1.out.2
  obtain ⟨b5, hb5⟩ : ∃ b5, b5 = W2.heap.size := ⟨_, rfl⟩
  obtain ⟨W3, hW3⟩ : ∃ W3, W3 = W2.alloc (.cells #[.slice oa T.length oc] 43) := ⟨_, rfl⟩
  obtain ⟨b6, hb6⟩ : ∃ b6, b6 = b5 + 1 := ⟨_, rfl⟩
  have hs3 : W3.heap.size = b6 := by rw [hW3, hb6, hb5]; simp
  obtain ⟨W4, hW4⟩ : ∃ W4, W4 = W3.alloc (.cells #[.int .i64 0] 3) := ⟨_, rfl⟩
  obtain ⟨b4, hb4⟩ : ∃ b4, b4 = w.heap.size := ⟨_, rfl⟩
  have A4 : AI w W4 b4 b5 b6 (.slice oa T.length oc) T 0 := by
    have K3 : Keeps (fun _ => False) W2 W3 := hW3 ▸ (Keeps.refl _ _).alloc _
    have K4 : Keeps (fun _ => False) W3 W4 := hW4 ▸ (Keeps.refl _ _).alloc _
    have e1 := HS1.out
    have e2 := K2.size
    have e3 := K3.size
    have d5 : W3.heap[b5]? = some (.cells #[.slice oa T.length oc] 43 (0, 0)) := by rw [hW3, hb5]; exact heap_alloc_new _ _
    refine ⟨((HK1.out.1.trans K2).trans K3).trans K4, ?_, ?_, ?_, own_mono (keeps_row (K3.trans K4) hown (by simp)) (by omega), by omega, by omega, by omega⟩
    · rw [hb4]; exact ((K3.trans K4).block _ (by omega) (by simp)).trans d4
    · exact (K4.block _ (Array.getElem?_eq_some_iff.1 d5).1 (by simp)).trans d5
    · rw [hW4, ← hs3]; exact heap_alloc_new _ _
  have HA4 := hidp A4
  clear A4 hown d4 K2 HC HK1 HS1 hs3
  gi_wp2
  rw [← hW3]
  simp only [← hb5]
  rw [← hW4]
  simp only [← hb6, ← hb4]
  refine ⟨trivial, (all_in Fence.wide _ trivial rfl s _).mono ?_⟩
  rintro e W5 ⟨rfl, hW5⟩
  have A5 := HA4.out.quiet (W' := W5) (hW5 ▸ (Keeps.refl _ _).alloc _)
  have hsl5 := HS.out.keep A5.keeps (by simp) (by simp)
  have hB5 : W5.cell? ⟨W4.heap.size, 0, none⟩ = some (.pointer (some ⟨s, 0, none⟩)) := by rw [hW5]; exact cells_at (heap_alloc_new W4 _) 0
  have hc5 := lt_of_cell (cells_at hsl5.cell 0)
  have HA5 := hidp A5
  have HSL5 := hidp hsl5
  clear A5 hsl5 HA4 hW5 hW4 hW3 hb5 hb6 hb4
  gi_wp2
  refine wpIn_rangeFunc_ownH rfl (by omega) (gf := 29) (lb := #[.pointer (some ⟨W4.heap.size, 0, none⟩)]) rfl trivial (enters_of Try.func29 (by kernel_rfl) rfl)
    (all_stops Fence.wide _ trivial rfl (by omega) W4.heap.size s v g L low W5 hB5 HSL5.out) (fun h k => Kp.trans h k) (fun W l o o' h1 h2 h3 h4 => Kp.put hc5 W l o o' h1 h2 h3 h4) (Below.refl _ _) (fun _ => rfl)
    (fun pre W => AI w W b4 b5 b6 (.slice oa T.length oc) T pre.length ∧ pre = T.take pre.length)
    (fun cd pre _ => cd = .ret ∧ pre ≠ T.take pre.length)
    ?hI ?hIx ?h0 (FramA b4 b5 b6) ?hAx ?assign ?body ?done ?stop
  case hI =>
    rintro pre W W' row ⟨h1, h2⟩ hg hr
    exact ⟨h1.turn hg fun r e => ⟨by have := (hr r e).1; have := HA5.out.keeps.size; omega, (hr r e).2⟩, h2⟩
  case hIx => exact fun _ _ _ _ _ h _ _ => h
  case h0 => exact ⟨HA5.out, by simp⟩
  case hAx =>
    rintro x a' u W W' row ⟨bh, y0, y1, y2, y3, y9, y10, y11, y12, y13, y14, y15, y16, y17, y18, y19, y20, y21, y22, y23, y24, y25, y26, y27, y28, y29, y30, y31, y32, y33, y34, y35, y36, y37, y38, y39, y40, y41, y42, y43, y44, y45, y46, y47, y48, h1, h2⟩ hg hr
    refine ⟨bh, _, _, _, _, _, _, _, _, _, _, _, _, _, _, _, _, _, _, _, _, _, _, _, _, _, _, _, _, _, _, _, _, _, _, _, _, _, _, _, _, _, _, _, _, (hg.block bh (Array.getElem?_eq_some_iff.1 h1).1 (fun e => ?_)).trans h1, h2⟩
    obtain ⟨-, o, ho, hc⟩ := hr bh e.symm
    rw [h1] at ho; cases ho; simp [Obj.isCells] at hc
  case assign =>
    intro l pre x W K hi hK
    simp only [hnd]
    have KA : Keeps (fun _ => False) W (W.alloc (.cells #[.int .i64 x.1, .int .i64 x.2.1] 27)) := (Keeps.refl _ _).alloc _
    have hkp : Kp s W (W.alloc (.cells #[.int .i64 x.1, .int .i64 x.2.1] 27)) := kp_of_keeps KA (by simp) (by have := hi.1.keeps.size; omega) (by simp)
    gi_wp2
    exact hK _ _ ((KeepsOthers.alloc _ _).from _) hkp ⟨hi.1.quiet KA, hi.2⟩ ⟨_, _, _, _, _, _, _, _, _, _, _, _, _, _, _, _, _, _, _, _, _, _, _, _, _, _, _, _, _, _, _, _, _, _, _, _, _, _, _, _, _, _, _, _, _, heap_alloc_new W _, rfl⟩
  case body =>
    rintro l pre x a' W hl hrec ⟨h1, h2⟩ ⟨bh, y0, y1, y2, y3, y9, y10, y11, y12, y13, y14, y15, y16, y17, y18, y19, y20, y21, y22, y23, y24, y25, y26, y27, y28, y29, y30, y31, y32, y33, y34, y35, y36, y37, y38, y39, y40, y41, y42, y43, y44, y45, y46, y47, y48, hbh, rfl⟩ hlen
    obtain ⟨n, hn⟩ : ∃ n, n = pre.length := ⟨_, rfl⟩
    rw [← hn] at h1 h2 hlen
    obtain ⟨x1, x2, x3⟩ := x
    simp only at hbh ⊢
    have c_h0 : W.cell? ⟨bh, 0, none⟩ = some (.int .i64 x1) := cells_at hbh 0
    have c_h1 : W.cell? ⟨bh, 1, none⟩ = some (.int .i64 x2) := cells_at hbh 1
    have c_i : W.cell? ⟨b6, 0, none⟩ = some (.int .i64 n) := cells_at h1.c6 0
    have c_w : W.cell? ⟨b5, 0, none⟩ = some (.slice oa T.length oc) := cells_at h1.c5 0
    have c_r : W.cell? ⟨b4, 0, none⟩ = some (.bool false) := cells_at h1.c4 0
    have f_i := free_at h1.c6 0
    have f_r := free_at h1.c4 0
    have hpl : (pre ++ [(x1, x2, x3)]).length = n + 1 := by simp [hn]
    have hpt : pre ++ [(x1, x2, x3)] = T.take (n + 1) → ∃ h : n < T.length, T[n] = (x1, x2, x3) := by
      intro e
      have hl := congrArg List.length e
      rw [hpl, List.length_take] at hl
      have hlt : n < T.length := by omega
      refine ⟨hlt, ?_⟩
      rw [List.take_succ_eq_append_getElem hlt, ← h2] at e
      simpa using (List.append_cancel_left e).symm
    have HP := hidp (And.intro hpl (And.intro hpt h2))
    have H1 := hidp h1
    have hTl : T.length ≤ 1000000 := by rw [HT.out]; have := its_len L L.length; omega
    clear h2 hn hbh hpl hpt h1
    by_cases hlt : n < T.length
    · obtain ⟨g5, rfl⟩ : ∃ g5, oa = some ⟨g5, 0, none⟩ := by
        obtain ⟨a, c, h3, hog⟩ := slice_of H1.out.row
        obtain ⟨g5, h4, -⟩ := hog (by omega)
        exact ⟨g5, by have := h3; simp at this; rw [this.1, h4]⟩
      have r0 : W.cell? ⟨g5, n * 3, none⟩ = some (.int .i64 T[n].1) := (H1.out.row.cellAt (n * 3) (by omega)).trans (itc_get T n hlt).1
      have r1 : W.cell? ⟨g5, n * 3 + 1, none⟩ = some (.int .i64 T[n].2.1) := (H1.out.row.cellAt (n * 3 + 1) (by omega)).trans (itc_get T n hlt).2.1
      have r2 : W.cell? ⟨g5, n * 3 + 2, none⟩ = some (.int .i64 T[n].2.2) := (H1.out.row.cellAt (n * 3 + 2) (by omega)).trans (itc_get T n hlt).2.2
      obtain ⟨y, hy⟩ : ∃ y, y = T[n] := ⟨_, rfl⟩
      obtain ⟨y1, y2, y3⟩ := y
      rw [← hy] at r0 r1 r2
      simp only at r0 r1 r2
      have HY := hidp hy
      have t1 : decide (T.length ≤ n) = false := by simp; omega
      have t2 : ((n : Int) < T.length) := by omega
      have hw2 : IntKind.i64.wrap ((n : Int) + 1) = n + 1 := IntWalk.i64_in _ (by omega)
      clear hy
      by_cases e1 : y1 = x1
      · subst e1
        by_cases e2 : y2 = x2
        · subst e2
          by_cases e3 : y3 = x3
          · subst e3
            have t3 : (y3 != y3) = false := by simp
            gi_wp2
            refine wpIn_region_quiet_round rfl (by kernel_rfl) (by kernel_rfl) (by kernel_rfl) ?_
            repeat (gi_big_quiet_step (fail))
            refine wpQuietIn_nil ?_
            intro _ hw'
            obtain ⟨nq, hw''⟩ := hw'
            subst hw''
            obtain ⟨A6, K6⟩ := (H1.out.drewN nq).next
            have c_i := cells_at (H1.out.drewN nq).c6 0
            have f_i := free_at (H1.out.drewN nq).c6 0
            simp only [List.getElem?_toArray, List.getElem?_cons_zero] at c_i
            have hko := (KeepsOthers.of_keepsN W nq).trans (KeepsOthers.setCell (W.drewN nq) ⟨b6, 0, none⟩ (.int .i64 ((n : Int) + 1)))
            have hkp : Kp s W ((W.drewN nq).setCell ⟨b6, 0, none⟩ (.int .i64 ((n : Int) + 1))) := by
              refine kp_of_keeps (keeps_drew0 (S := fun k => k = b6) W nq |>.trans K6) ?_ (by have := H1.out.keeps.size; omega) (fun k cs hk e => ?_)
              · have := H1.out.ge; omega
              · subst e; rw [H1.out.c6] at hk; simp at hk
            have HF := hidp (And.intro hko (And.intro hkp A6))
            clear A6 K6 hko hkp r0 r1 r2 c_h0 c_h1
            gi_wp2
            refine ⟨HF.out.1.from _, HF.out.2.1, ?_, ?_⟩
            · rw [HP.out.1]; exact HF.out.2.2
            · rw [HP.out.1, List.take_succ_eq_append_getElem hlt, ← HP.out.2.2, ← HY.out]
          · have t3 : (y3 != x3) = true := by simpa using e3
            have HE := hidp e3
            clear e3
            gi_wp2
            refine wpIn_region_quiet_round rfl (by kernel_rfl) (by kernel_rfl) (by kernel_rfl) ?_
            repeat (gi_big_quiet_step (fail))
            refine wpQuietIn_nil ?_
            intro _ hw'
            obtain ⟨nq, hw''⟩ := hw'
            subst hw''
            gi_wp2
            refine ⟨((KeepsOthers.of_keepsN W nq).trans (KeepsOthers.setCell _ _ _)).from _, rfl, fun e => ?_⟩
            rw [HP.out.1] at e
            obtain ⟨hlt', he⟩ := HP.out.2.1 e
            exact HE.out (by have := HY.out.trans he; simpa using this)
        · have e2' : ¬ (y2 : Int) = x2 := by omega
          have HE := hidp e2
          gi_wp2
          refine wpIn_region_quiet_round rfl (by kernel_rfl) (by kernel_rfl) (by kernel_rfl) ?_
          repeat (gi_big_quiet_step (fail))
          refine wpQuietIn_nil ?_
          intro _ hw'
          obtain ⟨nq, hw''⟩ := hw'
          subst hw''
          gi_wp2
          refine ⟨((KeepsOthers.of_keepsN W nq).trans (KeepsOthers.setCell _ _ _)).from _, rfl, fun e => ?_⟩
          rw [HP.out.1] at e
          obtain ⟨hlt', he⟩ := HP.out.2.1 e
          exact HE.out (by have := HY.out.trans he; simp at this; exact this.1)
      · have e1' : ¬ (y1 : Int) = x1 := by omega
        have HE := hidp e1
        gi_wp2
        refine wpIn_region_quiet_round rfl (by kernel_rfl) (by kernel_rfl) (by kernel_rfl) ?_
        repeat (gi_big_quiet_step (fail))
        refine wpQuietIn_nil ?_
        intro _ hw'
        obtain ⟨nq, hw''⟩ := hw'
        subst hw''
        gi_wp2
        refine ⟨((KeepsOthers.of_keepsN W nq).trans (KeepsOthers.setCell _ _ _)).from _, rfl, fun e => ?_⟩
        rw [HP.out.1] at e
        obtain ⟨hlt', he⟩ := HP.out.2.1 e
        exact HE.out (by have := HY.out.trans he; simp at this; exact this.1)
    · have t1 : decide (T.length ≤ n) = true := by simp; omega
      gi_wp2
      refine wpIn_region_quiet_round rfl (by kernel_rfl) (by kernel_rfl) (by kernel_rfl) ?_
      repeat (gi_big_quiet_step (fail))
      refine wpQuietIn_nil ?_
      intro _ hw'
      obtain ⟨nq, hw''⟩ := hw'
      subst hw''
      gi_wp2
      refine ⟨((KeepsOthers.of_keepsN W nq).trans (KeepsOthers.setCell _ _ _)).from _, rfl, fun e => ?_⟩
      rw [HP.out.1] at e
      obtain ⟨hlt, he⟩ := HP.out.2.1 e
      omega
  case done =>
    rintro D xs W hD hS ⟨h1, h2⟩ hK
    have hx : xs.length = T.length := by rw [hS, ← HT.out]
    rw [hx] at h1
    have c_i : W.cell? ⟨b6, 0, none⟩ = some (.int .i64 T.length) := cells_at h1.c6 0
    have c_w : W.cell? ⟨b5, 0, none⟩ = some (.slice oa T.length oc) := cells_at h1.c5 0
    have c_r : W.cell? ⟨b4, 0, none⟩ = some (.bool false) := cells_at h1.c4 0
    have f_r := free_at h1.c4 0
    have hcnt : (cnt L : Int) = T.length := by rw [HT.out, its_cnt]
    have hsl := HS.out.keep h1.keeps (by simp) (by simp)
    have C := len_i (hsl.keep (keeps_drew0 (S := fun _ => False) W 1) (by simp) (by simp))
    rw [hcnt] at C
    have HC := hidp C
    have H1 := hidp (And.intro h1 hK)
    have t1 : ((T.length : Int) == (T.length : Int)) = true := by simp
    have n4 : b4 ≠ b6 := by rintro rfl; have := h1.c4; rw [h1.c6] at this; simp at this
    have n5 : b4 ≠ b5 := by rintro rfl; have := h1.c4; rw [h1.c5] at this; simp at this
    have hbD : D ≠ b4 := by rintro rfl; rw [h1.c4] at hK; cases hK
    have x4 : ((W.drewN 1).setCell ⟨b4, 0, none⟩ (.bool true)).heap[b4]? = some (.cells #[.bool true] 4 (0, 0)) := by
      rw [setCell_block (w := W.drewN 1) h1.c4]; simp
    have x5 : ((W.drewN 1).setCell ⟨b4, 0, none⟩ (.bool true)).cell? ⟨b5, 0, none⟩ = some (.slice oa T.length oc) := cells_at ((Below.heap_setCell (W.drewN 1) _ _ _ (Ne.symm n5)).trans h1.c5) 0
    have x6 : ((W.drewN 1).setCell ⟨b4, 0, none⟩ (.bool true)).cell? ⟨b6, 0, none⟩ = some (.int .i64 T.length) := cells_at ((Below.heap_setCell (W.drewN 1) _ _ _ (Ne.symm n4)).trans h1.c6) 0
    have xD : ((W.drewN 1).setCell ⟨b4, 0, none⟩ (.bool true)).heap[D]? = some (.deferred (some [])) := (Below.heap_setCell (W.drewN 1) _ _ _ hbD).trans hK
    have hkk : Keeps (fun _ => False) w ((W.drewN 1).setCell ⟨b4, 0, none⟩ (.bool true)) := (keeps_drewN h1.keeps 1).setCell (.inr h1.ge.1) _
    have HX := hidp (And.intro (And.intro x6 x5) (And.intro x4 (And.intro xD hkk)))
    have hbD' := hidp hbD
    have hwD := hidp (show w.heap.size ≤ D from by have := HA5.out.keeps.size; omega)
    clear h1 h2 hK hS hx hcnt hsl C n4 n5 x4 x5 x6 xD hkk hbD
    gi_wp2
    refine wpIn_wide.2 ?_
    go_region_held3 (fun W' => W'.cell? ⟨b6, 0, none⟩ = some (.int .i64 T.length) ∧ W'.cell? ⟨b5, 0, none⟩ = some (.slice oa T.length oc)) (first | exact ⟨c_i, c_w⟩ | exact HX.out.1) ((first
      | (refine HC.out.mono ?_; rintro e w9 ⟨rfl, rfl⟩)))
    obtain ⟨W9, hW9⟩ : ∃ W9, W9 = (W.drewN 1).setCell ⟨b4, 0, none⟩ (.bool true) := ⟨_, rfl⟩
    rw [← hW9] at HX
    have HX2 := hidp HX.out.2
    change Exit.then _ _ _ _ ((W.drewN 1).setCell ⟨b4, 0, none⟩ (.bool true))
    rw [← hW9]
    clear hW9 HX c_i c_w c_r f_r HC H1
    gi_wp2
    refine ⟨by simp, .inl ⟨_, _, rfl, run_takeDeferred HX2.out.2.1, ?_⟩⟩
    have hres : (W9.putObj D (.deferred none)).cell? ⟨b4, 0, none⟩ = some (.bool true) := by
      rw [cell_of_heap (p := ⟨b4, 0, none⟩) (World.putObj_heap_other (Ne.symm hbD'.out)), cells_at HX2.out.1 0]
      rfl
    have hkk : Keeps (fun _ => False) w (W9.putObj D (.deferred none)) := HX2.out.2.2.grown (grownBy_putObj' _ D (.deferred none)) (fun k hk => .inr (by simp at hk; have := hwD.out; omega))
    exact ⟨_, by simp [results, Try.results18, go_sem, hres], rfl, hkk⟩
  case stop =>
    rintro D cd pre W hD ⟨k, hk, rfl⟩ ⟨rfl, h2⟩ hK
    refine (h2 ?_).elim
    rw [HT.out]
    exact its_take' L k hk
end Go.Proofs.Ytnhcejbgkhhijaa
