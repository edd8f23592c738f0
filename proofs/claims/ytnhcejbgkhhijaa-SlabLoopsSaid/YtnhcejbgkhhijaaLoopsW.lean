/- SlabLoops: the plain law, and the walk. -/
import Derived.Test.YtnhcejbgkhhijaaSteps
namespace Go.Proofs.Ytnhcejbgkhhijaa
open Go.RowKit Go.Pairs Go.Shelf
attribute [local go_sem] Oper.semAt_some

def fillL (i : Nat) : List Cl := (List.range i).map fun (j : Nat) => ⟨1, true, .int .i64 (100 + (j : Int))⟩
theorem fillL_len (i : Nat) : (fillL i).length = i := by simp [fillL]
theorem fillL_ff (i : Nat) : ff (fillL i) = i := by
  refine ff_eq _ _ (by simp [fillL]) (fun j hj _ => by simp [fillL]) (fun h => by simp [fillL] at h)
theorem fillL_put (i : Nat) : putL (fillL i) (.int .i64 0) (.int .i64 (100 + (i : Int))) = fillL (i + 1) := by
  have h := fillL_ff i
  have hl := fillL_len i
  have hF := fill_new (L := fillL i) (by omega) (.int .i64 0) (.int .i64 (100 + (i : Int)))
  rw [hF.put]
  simp only [h]
  rw [List.set_append_right _ _ (by omega)]
  simp [fillL, List.range_succ]
theorem fillL_gens (i : Nat) : ∀ d ∈ fillL i, d.gen ≤ 1 := by
  intro d hd
  simp only [fillL, List.mem_map] at hd
  obtain ⟨j, -, rfl⟩ := hd
  exact Nat.le_refl 1

def told (k : Nat) : List (Nat × Nat × Int) := (List.range k).map fun (j : Nat) => (j, 1, 100 + (j : Int))
theorem told_succ (k : Nat) : told (k + 1) = told k ++ [(k, 1, 100 + (k : Int))] := by simp [told, List.range_succ]
theorem told_len (k : Nat) : (told k).length = k := by simp [told]
theorem fillL_its (n : Nat) : ∀ k, k ≤ n → its (fillL n) k = told k
  | 0, _ => rfl
  | k + 1, h => by
    have hk : k < (fillL n).length := by rw [fillL_len]; omega
    have e : (fillL n)[k] = ⟨1, true, .int .i64 (100 + (k : Int))⟩ := by simp [fillL]
    rw [its_yes hk (by rw [e]), fillL_its n k (by omega), told_succ, e]
    rfl

/-- the caller's boxes: n, stop, the result, s (and what A has besides). -/
structure LS (w W : World) (L : List Cl) (A : Nat → Prop) (nn : Nat) (stop : Int) (rv : Bool) (bn bt br bs c : Nat) : Prop where
  own : Own_i w W c L A
  n : W.heap[bn]? = some (.cells #[.int .i64 nn] 3 (0, 0))
  t : W.heap[bt]? = some (.cells #[.int .i64 stop] 3 (0, 0))
  r : W.heap[br]? = some (.cells #[.bool rv] 4 (0, 0))
  s : W.heap[bs]? = some (.cells #[.pointer (some ⟨c, 0, none⟩)] 23 (0, 0))
  a : A bn ∧ A bt ∧ A br ∧ A bs

theorem LS.move {w W W' : World} {L L' : List Cl} {A A' : Nat → Prop} {nn : Nat} {stop : Int} {rv : Bool} {bn bt br bs c : Nat} (h : LS w W L A nn stop rv bn bt br bs c) (ho : Own_i w W' c L' A') {S : Nat → Prop} (hk : Keeps S W W') (hS : ∀ k, A k → ¬ S k) (hA : ∀ k, A k → A' k) : LS w W' L' A' nn stop rv bn bt br bs c := by
  have hl := h.own.lt
  obtain ⟨a1, a2, a3, a4⟩ := h.a
  exact ⟨ho, (hk.block _ (hl _ a1) (hS _ a1)).trans h.n, (hk.block _ (hl _ a2) (hS _ a2)).trans h.t, (hk.block _ (hl _ a3) (hS _ a3)).trans h.r, (hk.block _ (hl _ a4) (hS _ a4)).trans h.s, hA _ a1, hA _ a2, hA _ a3, hA _ a4⟩

theorem LS.step {w W W' : World} {L L' : List Cl} {A : Nat → Prop} {nn : Nat} {stop : Int} {rv : Bool} {bn bt br bs c : Nat} (h : LS w W L A nn stop rv bn bt br bs c) (ho : Own_i w W' c L' A) (hk : Step A c W W') : LS w W' L' A nn stop rv bn bt br bs c :=
  h.move ho hk.keeps (fun _ h hn => hn h) (fun _ h => h)

theorem LS.turn {w W W' : World} {L : List Cl} {A : Nat → Prop} {nn : Nat} {stop : Int} {rv : Bool} {bn bt br bs c : Nat} (h : LS w W L A nn stop rv bn bt br bs c) {row : Option Nat} (hg : W.grownBy W' row) (hr : ∀ r, row = some r → w.heap.size ≤ r ∧ ∃ o : Obj, W.heap[r]? = some o ∧ o.isCells = false) : LS w W' L A nn stop rv bn bt br bs c := by
  have K : ∀ (k : Nat) (cs : Array Value) (t : TypeId), W.heap[k]? = some (Obj.cells cs t (0, 0)) → W'.heap[k]? = some (Obj.cells cs t (0, 0)) := by
    intro k cs t h1
    refine (hg.block k (Array.getElem?_eq_some_iff.1 h1).1 (fun e => ?_)).trans h1
    obtain ⟨-, o, ho, hc⟩ := hr k e.symm
    rw [h1] at ho; cases ho; simp [Obj.isCells] at hc
  exact ⟨h.own.turn hg hr, K _ _ _ h.n, K _ _ _ h.t, K _ _ _ h.r, K _ _ _ h.s, h.a⟩

/-- .. and seen. -/
structure LQ (w W : World) (L : List Cl) (A : Nat → Prop) (nn : Nat) (stop : Int) (rv : Bool) (bn bt br bs c bq seen : Nat) : Prop where
  ls : LS w W L A nn stop rv bn bt br bs c
  q : W.heap[bq]? = some (.cells #[.int .i64 seen] 3 (0, 0))
  aq : A bq

theorem LQ.turn {w W W' : World} {L : List Cl} {A : Nat → Prop} {nn : Nat} {stop : Int} {rv : Bool} {bn bt br bs c bq seen : Nat} (h : LQ w W L A nn stop rv bn bt br bs c bq seen) {row : Option Nat} (hg : W.grownBy W' row) (hr : ∀ r, row = some r → w.heap.size ≤ r ∧ ∃ o : Obj, W.heap[r]? = some o ∧ o.isCells = false) : LQ w W' L A nn stop rv bn bt br bs c bq seen := by
  refine ⟨h.ls.turn hg hr, (hg.block bq (Array.getElem?_eq_some_iff.1 h.q).1 (fun e => ?_)).trans h.q, h.aq⟩
  obtain ⟨-, o, ho, hc⟩ := hr bq e.symm
  rw [h.q] at ho; cases ho; simp [Obj.isCells] at hc

theorem LQ.step {w W W' : World} {L L' : List Cl} {A : Nat → Prop} {nn : Nat} {stop : Int} {rv : Bool} {bn bt br bs c bq seen : Nat} (h : LQ w W L A nn stop rv bn bt br bs c bq seen) (ho : Own_i w W' c L' A) (hk : Step A c W W') : LQ w W' L' A nn stop rv bn bt br bs c bq seen :=
  ⟨h.ls.step ho hk, (hk.keeps.block bq (h.ls.own.lt _ h.aq) (fun hn => hn h.aq)).trans h.q, h.aq⟩

theorem LQ.put {w W : World} {L : List Cl} {A : Nat → Prop} {nn : Nat} {stop : Int} {rv : Bool} {bn bt br bs c bq seen : Nat} (h : LQ w W L A nn stop rv bn bt br bs c bq seen) (hne : bn ≠ bq ∧ bt ≠ bq ∧ br ≠ bq ∧ bs ≠ bq) (hA : ∀ k, A k → w.heap.size ≤ k) (m : Nat) :
    LQ w (W.setCell ⟨bq, 0, none⟩ (.int .i64 m)) L A nn stop rv bn bt br bs c bq m ∧ Kp c W (W.setCell ⟨bq, 0, none⟩ (.int .i64 m)) ∧ KeepsOthers W (W.setCell ⟨bq, 0, none⟩ (.int .i64 m)) := by
  have K : Keeps (fun k => k = bq) W (W.setCell ⟨bq, 0, none⟩ (.int .i64 m)) := (Keeps.refl (fun k => k = bq) W).setCell (p := ⟨bq, 0, none⟩) (.inl rfl) _
  have hcq : c ≠ bq := by rintro rfl; exact h.ls.own.ac h.aq
  have ho : Own_i w (W.setCell ⟨bq, 0, none⟩ (.int .i64 m)) c L A := h.ls.own.mine (K.mono fun k _ e => by subst e; exact h.aq) hA fun k hk => ⟨.inl hk, by have := h.ls.own.lt k hk; simpa using this⟩
  refine ⟨⟨⟨ho, ?_, ?_, ?_, ?_, h.ls.a⟩, ?_, h.aq⟩, kp_of_keeps K hcq h.ls.own.slt ?_, others_of_keeps K ?_⟩
  · exact (Below.heap_setCell _ _ _ _ hne.1).trans h.ls.n
  · exact (Below.heap_setCell _ _ _ _ hne.2.1).trans h.ls.t
  · exact (Below.heap_setCell _ _ _ _ hne.2.2.1).trans h.ls.r
  · exact (Below.heap_setCell _ _ _ _ hne.2.2.2).trans h.ls.s
  · rw [setCell_block h.q]; simp
  · rintro k cs h1 rfl
    rw [h.q] at h1; simp at h1
  · rintro k o rfl h1
    rw [h.q] at h1; cases h1; rfl

/-- slots and values. -/
def mm (pre : List (Nat × Nat × Int)) : List (Nat × Int) := pre.map fun x => (x.1, x.2.2)
def told2 (k : Nat) : List (Nat × Int) := (List.range k).map fun (j : Nat) => (j, 100 + (j : Int))
theorem mm_told (k : Nat) : mm (told k) = told2 k := by simp [mm, told, told2]
theorem told2_succ (k : Nat) : told2 (k + 1) = told2 k ++ [(k, 100 + (k : Int))] := by simp [told2, List.range_succ]
theorem mm_snoc (pre : List (Nat × Nat × Int)) (x : Nat × Nat × Int) : mm (pre ++ [x]) = mm pre ++ [(x.1, x.2.2)] := by simp [mm]

/-- between two rounds. -/
def Inv (w : World) (A : Nat → Prop) (nn : Nat) (stop : Int) (bn bt br bs c bq : Nat) (pre : List (Nat × Nat × Int)) (W : World) : Prop :=
  mm pre = told2 pre.length ∧ ∃ L, (∀ d ∈ L, d.gen ≤ 1 + pre.length) ∧ L.length ≤ nn + pre.length ∧ LQ w W L A nn stop false bn bt br bs c bq pre.length
/-- the activation behind the assignment. -/
def Fram (bn bt br bs bq : Nat) (x : Nat × Nat × Int) (a' : Act) (W : World) : Prop :=
  ∃ (bh : Nat) (y0 y1 y6 y10 y11 y12 y13 y14 y15 y16 y17 y18 y19 y20 y21 y22 y23 y24 y25 y26 y27 y28 y29 y30 y31 y32 y33 y34 y35 y36 y37 y38 y39 y40 y41 y42 y43 y44 y45 y46 y47 y48 y49 y50 y51 y52 y53 y54 y55 y56 y57 y58 y59 y60 y61 y62 y63 y64 y65 y66 y67 y68 y69 y70 y71 y72 y73 y74 y75 y76 y77 y78 y79 y80 y81 : Value), W.heap[bh]? = some (.cells #[.int .i64 x.1, .int .i64 x.2.1] 27 (0, 0)) ∧ a' = { tmps := #[y0, y1, .pointer (some ⟨bn, 0, none⟩), .pointer (some ⟨bt, 0, none⟩), .pointer (some ⟨br, 0, none⟩), .pointer (some ⟨bs, 0, none⟩), y6, .pointer (some ⟨bq, 0, none⟩), .pointer (some ⟨bh, 0, none⟩), .int .i64 x.2.2, y10, y11, y12, y13, y14, y15, y16, y17, y18, y19, y20, y21, y22, y23, y24, y25, y26, y27, y28, y29, y30, y31, y32, y33, y34, y35, y36, y37, y38, y39, y40, y41, y42, y43, y44, y45, y46, y47, y48, y49, y50, y51, y52, y53, y54, y55, y56, y57, y58, y59, y60, y61, y62, y63, y64, y65, y66, y67, y68, y69, y70, y71, y72, y73, y74, y75, y76, y77, y78, y79, y80, y81], defers := [] }

set_option maxRecDepth 100000 in
set_option maxHeartbeats 4000000 in
theorem loops_yes (w : World) (nn : Nat) (hn : nn ≤ 40) (stop : Int) :
    Calls Try.prog 5 #[.int .i64 nn, .int .i64 stop] w fun e w' => e = .returned (.bool true) ∧ Below w.heap.size w w' := by
  refine (callsIn_wide (n := 3)).1 ?_
  refine callsIn_of_wp_marks Try.func5 rfl trivial ?_ rfl
  simp only [Try.ntmps5, List.size_toArray, List.length_cons, List.length_nil, Nat.reduceAdd, Nat.reduceSub, Array.replicate_succ, Array.replicate_zero, List.push_toArray, List.append_toArray, List.nil_append, List.cons_append]
  obtain ⟨W3, hW3⟩ : ∃ W3, W3 = ((w.alloc (.cells #[.int .i64 nn] 3)).alloc (.cells #[.int .i64 stop] 3)).alloc (.cells #[.bool false] 4) := ⟨_, rfl⟩
  have K3 : Keeps (fun _ => False) w W3 := hW3 ▸ (((Keeps.refl _ _).alloc _).alloc _).alloc _
  have hs3 : W3.heap.size = w.heap.size + 1 + 1 + 1 := by rw [hW3]; simp
  have d1 : W3.heap[w.heap.size]? = some (.cells #[.int .i64 nn] 3 (0, 0)) := by
    rw [hW3, heap_alloc_old _ _ _ (by simp; omega), heap_alloc_old _ _ _ (by simp)]; exact heap_alloc_new _ _
  have d2 : W3.heap[w.heap.size + 1]? = some (.cells #[.int .i64 stop] 3 (0, 0)) := by
    rw [hW3, heap_alloc_old _ _ _ (by simp)]
    have := heap_alloc_new (w.alloc (.cells #[.int .i64 nn] 3)) (.cells #[.int .i64 stop] 3)
    simpa using this
  have d3 : W3.heap[w.heap.size + 1 + 1]? = some (.cells #[.bool false] 4 (0, 0)) := by
    rw [hW3]
    have := heap_alloc_new ((w.alloc (.cells #[.int .i64 nn] 3)).alloc (.cells #[.int .i64 stop] 3)) (.cells #[.bool false] 4)
    simpa using this
  have HD := hidp (And.intro d1 (And.intro d2 d3))
  have HK3 := hidp K3
  clear d1 d2 d3 K3
  gi_wp2
  rw [← hW3]
  clear hW3
  refine ⟨trivial, (callsIn_wide.2 (ownnew_i w W3 (fun k => k = w.heap.size ∨ k = w.heap.size + 1 ∨ k = w.heap.size + 1 + 1) HK3.out (by rintro k (rfl | rfl | rfl) <;> omega))).mono ?_⟩
  rintro e W4 ⟨rfl, O4, K4⟩
  have d1 := (K4.block _ (by omega) (fun h => h (.inl rfl))).trans HD.out.1
  have d2 := (K4.block _ (by omega) (fun h => h (.inr (.inl rfl)))).trans HD.out.2.1
  have d3 := (K4.block _ (by omega) (fun h => h (.inr (.inr rfl)))).trans HD.out.2.2
  have hsz4 := O4.slt
  obtain ⟨c, hcc⟩ : ∃ c, c = W3.heap.size := ⟨_, rfl⟩
  obtain ⟨bn, hbn⟩ : ∃ bn, bn = w.heap.size := ⟨_, rfl⟩
  obtain ⟨bt, hbt⟩ : ∃ bt, bt = bn + 1 := ⟨_, rfl⟩
  obtain ⟨br, hbr⟩ : ∃ br, br = bt + 1 := ⟨_, rfl⟩
  have O5 := O4.alloc (by rintro k (rfl | rfl | rfl) <;> omega) (.cells #[.pointer (some ⟨c, 0, none⟩)] 23)
  rw [← hcc] at hsz4 hs3
  simp only [← hcc, ← hbn, ← hbt, ← hbr] at O5 d1 d2 d3 hs3 ⊢
  have S5 : LS w (W4.alloc (.cells #[.pointer (some ⟨c, 0, none⟩)] 23)) [] (fun k => (k = bn ∨ k = bt ∨ k = br) ∨ k = W4.heap.size) nn stop false bn bt br W4.heap.size c :=
    ⟨O5, (heap_alloc_old _ _ _ (by omega)).trans d1, (heap_alloc_old _ _ _ (by omega)).trans d2, (heap_alloc_old _ _ _ (by omega)).trans d3, heap_alloc_new _ _, by simp⟩
  have HNum := hidp (show w.heap.size ≤ bn ∧ bn < bt ∧ bt < br ∧ br < c ∧ c < W4.heap.size by omega)
  clear O4 O5 K4 d1 d2 d3 HD HK3 hcc hs3 hsz4 hbn hbt hbr
  have HS5 := hidp S5
  have c_n : (W4.alloc (.cells #[.pointer (some ⟨c, 0, none⟩)] 23)).cell? ⟨bn, 0, none⟩ = some (.int .i64 nn) := cells_at S5.n 0
  have c_s : (W4.alloc (.cells #[.pointer (some ⟨c, 0, none⟩)] 23)).cell? ⟨W4.heap.size, 0, none⟩ = some (.pointer (some ⟨c, 0, none⟩)) := cells_at S5.s 0
  have t1 : decide ((nn : Int) < 0) = false := by simp
  have t2 : decide ((40 : Int) < nn) = false := by simp; omega
  obtain ⟨W5, hW5⟩ : ∃ W5, W5 = W4.alloc (.cells #[.pointer (some ⟨c, 0, none⟩)] 23) := ⟨_, rfl⟩
  rw [← hW5] at HS5
  have HW5 := hidp hW5
  clear hW5 S5
  gi_wp2
  rw [← HW5.out]
  rw [← HW5.out] at c_n c_s
  obtain ⟨bs, hbs⟩ : ∃ bs, bs = W4.heap.size := ⟨_, rfl⟩
  rw [← hbs] at c_s HS5 HNum
  simp only [← hbs] at HS5 ⊢
  clear hbs HW5 t1 t2 c_n c_s
  have HA : Hid (∀ k, (k = bn ∨ k = bt ∨ k = br) ∨ k = bs → w.heap.size ≤ k) := hidp (by have := HNum.out; rintro k ((rfl | rfl | rfl) | rfl) <;> omega)
  obtain ⟨A, hA⟩ : ∃ A : Nat → Prop, A = fun k => (k = bn ∨ k = bt ∨ k = br) ∨ k = bs := ⟨_, rfl⟩
  have HA' : Hid (∀ k, A k → w.heap.size ≤ k) := hidp (by rw [hA]; exact HA.out)
  rw [← hA] at HS5
  clear HA hA
  gi_loopw [6] (fun i wr => ∃ j, j ≤ nn ∧ i = .int .i64 j ∧ LS w wr (fillL j) A nn stop false bn bt br bs c) (fun i _ => nn - (intOf i).toNat)
  case atStart => exact ⟨0, by omega, rfl, HS5.out⟩
  case round =>
    obtain ⟨j, hj, rfl, SS⟩ := hrel
    clear HS5
    have c_n : wr.cell? ⟨bn, 0, none⟩ = some (.int .i64 nn) := cells_at SS.n 0
    have c_s : wr.cell? ⟨bs, 0, none⟩ = some (.pointer (some ⟨c, 0, none⟩)) := cells_at SS.s 0
    have HSS := hidp SS
    clear SS
    by_cases hlt : j < nn
    · have hw : IntKind.i64.wrap (100 + (j : Int)) = 100 + j := IntWalk.i64_in _ (by omega)
      gi_wp2
      have hg := fillL_gens j
      refine ⟨trivial, (callsIn_wide.2 (anyput HSS.out.own (fun d hd => by have := hg d hd; omega) (by rw [fillL_len]; omega) (100 + (j : Int)))).mono ?_⟩
      rintro e W6 ⟨rfl, O6, K6⟩
      have S6 := HSS.out.step O6 K6
      rw [fillL_put] at S6
      clear O6 K6 HSS c_n c_s
      gi_wp2
      go_roundw
      case rel => exact ⟨j + 1, by omega, by go_num, S6⟩
      case measure => simp [intOf]; omega
    · obtain rfl : j = nn := by omega
      clear hj
      -- seen, and the loop
      have c_s3 : (wr.alloc (.cells #[.int .i64 0] 3)).cell? ⟨bs, 0, none⟩ = some (.pointer (some ⟨c, 0, none⟩)) := cells_at ((heap_alloc_old _ _ _ (Array.getElem?_eq_some_iff.1 HSS.out.s).1).trans HSS.out.s) 0
      have S7 : LS w (wr.alloc (.cells #[.int .i64 0] 3)) (fillL j) (fun k => A k ∨ k = wr.heap.size) j stop false bn bt br bs c :=
        HSS.out.move (HSS.out.own.alloc HA'.out _) ((Keeps.refl (fun _ => False) wr).alloc _) (fun _ _ h => h) (fun _ h => .inl h)
      have hq7 : (wr.alloc (.cells #[.int .i64 0] 3)).heap[wr.heap.size]? = some (.cells #[.int .i64 0] 3 (0, 0)) := heap_alloc_new _ _
      have HS7 := hidp (And.intro S7 hq7)
      clear S7 hq7
      gi_wp2
      refine ⟨trivial, (all_in Fence.wide _ trivial rfl c _).mono ?_⟩
      rintro e W8 ⟨rfl, hW8⟩
      obtain ⟨W7, hW7⟩ : ∃ W7, W7 = wr.alloc (.cells #[.int .i64 0] 3) := ⟨_, rfl⟩
      rw [← hW7] at hW8 HS7
      simp only [← hW7]
      have hs7 : W7.heap.size = wr.heap.size + 1 := by rw [hW7]; simp
      obtain ⟨bq, hbq⟩ : ∃ bq, bq = wr.heap.size := ⟨_, rfl⟩
      rw [← hbq] at HS7 hs7
      simp only [← hbq]
      have hltA := HSS.out.own.lt
      have ha := HSS.out.a
      have hwk := HSS.out.own.keeps.size
      have HB : Hid ((bn ≠ bq ∧ bt ≠ bq ∧ br ≠ bq ∧ bs ≠ bq)) := hidp (by
        have := hltA _ ha.1; have := hltA _ ha.2.1; have := hltA _ ha.2.2.1; have := hltA _ ha.2.2.2; omega)
      have HA2 : Hid (∀ k, A k ∨ k = bq → w.heap.size ≤ k) := hidp (by
        rintro k (hk | rfl)
        · exact HA'.out k hk
        · omega)
      have HBR : Hid (A br) := hidp ha.2.2.1
      clear hltA ha hwk
      have S8 : LQ w W8 (fillL j) (fun k => A k ∨ k = bq) j stop false bn bt br bs c bq 0 := by
        have K : Keeps (fun _ => False) W7 W8 := hW8 ▸ (Keeps.refl _ _).alloc _
        obtain ⟨o1, o2⟩ := HS7.out.1.own.still K
        exact LQ.step ⟨HS7.out.1, HS7.out.2, .inr rfl⟩ o1 o2
      have hB8 : W8.cell? ⟨W7.heap.size, 0, none⟩ = some (.pointer (some ⟨c, 0, none⟩)) := by rw [hW8]; exact cells_at (heap_alloc_new W7 _) 0
      obtain ⟨v, g, low, hsl, -⟩ := S8.ls.own.slab
      have hw8 := S8.ls.own.keeps.size
      have hc8 := S8.ls.own.slt
      have HS8 := hidp S8
      clear hW8 hW7 HS7 HSS S8 c_n c_s c_s3 hs7 hbq
      gi_wp2
      refine wpIn_rangeFunc_ownH rfl (by omega) (gf := 29) (lb := #[.pointer (some ⟨W7.heap.size, 0, none⟩)]) rfl trivial (enters_of Try.func29 (by kernel_rfl) rfl)
        (all_stops Fence.wide _ trivial rfl (by omega) W7.heap.size c v g (fillL j) low W8 hB8 hsl) (fun h k => Kp.trans h k) (fun W l o o' h1 h2 h3 h4 => Kp.put hc8 W l o o' h1 h2 h3 h4) (Below.refl _ _) (fun _ => rfl)
        (fun pre W => Inv w (fun k => A k ∨ k = bq) j stop bn bt br bs c bq pre W ∧ ¬ (1 ≤ stop ∧ stop ≤ pre.length))
        (fun cd pre W => (cd = .ret ∧ mm pre ≠ told2 pre.length) ∨ (cd = .exit 2 ∧ Inv w (fun k => A k ∨ k = bq) j stop bn bt br bs c bq pre W ∧ 1 ≤ stop ∧ stop = pre.length))
        ?hI ?hIx ?h0 (Fram bn bt br bs bq) ?hAx ?assign ?body ?done ?stop
      case hI =>
        rintro pre W W' row ⟨⟨h1, L, h2, h3, h4⟩, h5⟩ hg hr
        exact ⟨⟨h1, L, h2, h3, h4.turn hg fun r e => ⟨by have := (hr r e).1; omega, (hr r e).2⟩⟩, h5⟩
      case hIx =>
        rintro cd pre W W' row (h | ⟨h0, ⟨h1, L, h2, h3, h4⟩, h5⟩) hg hr
        · exact .inl h
        · exact .inr ⟨h0, ⟨h1, L, h2, h3, h4.turn hg fun r e => ⟨by have := (hr r e).1; omega, (hr r e).2⟩⟩, h5⟩
      case h0 => exact ⟨⟨rfl, fillL j, fun d hd => fillL_gens j d hd, by simp [fillL_len], HS8.out⟩, by simp; omega⟩
      case hAx =>
        rintro x a' u W W' row ⟨bh, y0, y1, y6, y10, y11, y12, y13, y14, y15, y16, y17, y18, y19, y20, y21, y22, y23, y24, y25, y26, y27, y28, y29, y30, y31, y32, y33, y34, y35, y36, y37, y38, y39, y40, y41, y42, y43, y44, y45, y46, y47, y48, y49, y50, y51, y52, y53, y54, y55, y56, y57, y58, y59, y60, y61, y62, y63, y64, y65, y66, y67, y68, y69, y70, y71, y72, y73, y74, y75, y76, y77, y78, y79, y80, y81, h1, h2⟩ hg hr
        refine ⟨bh, _, _, _, _, _, _, _, _, _, _, _, _, _, _, _, _, _, _, _, _, _, _, _, _, _, _, _, _, _, _, _, _, _, _, _, _, _, _, _, _, _, _, _, _, _, _, _, _, _, _, _, _, _, _, _, _, _, _, _, _, _, _, _, _, _, _, _, _, _, _, _, _, _, _, _, (hg.block bh (Array.getElem?_eq_some_iff.1 h1).1 (fun e => ?_)).trans h1, h2⟩
        obtain ⟨-, o, ho, hc⟩ := hr bh e.symm
        rw [h1] at ho; cases ho; simp [Obj.isCells] at hc
      case assign =>
        intro l pre x W K hi hK
        simp only [hnd]
        have KA : Keeps (fun _ => False) W (W.alloc (.cells #[.int .i64 x.1, .int .i64 x.2.1] 27)) := (Keeps.refl _ _).alloc _
        gi_wp2
        obtain ⟨⟨h1, L, h2, h3, h4⟩, h5⟩ := hi
        obtain ⟨o1, o2⟩ := h4.ls.own.still KA
        exact hK _ _ (o2.others.from _) o2.kp ⟨⟨h1, L, h2, h3, h4.step o1 o2⟩, h5⟩ ⟨_, _, _, _, _, _, _, _, _, _, _, _, _, _, _, _, _, _, _, _, _, _, _, _, _, _, _, _, _, _, _, _, _, _, _, _, _, _, _, _, _, _, _, _, _, _, _, _, _, _, _, _, _, _, _, _, _, _, _, _, _, _, _, _, _, _, _, _, _, _, _, _, _, _, _, _, heap_alloc_new W _, rfl⟩
      case body =>
        rintro l pre x a' W hl hrec ⟨⟨h1, L, h2, h3, h4⟩, h5⟩ ⟨bh, y0, y1, y6, y10, y11, y12, y13, y14, y15, y16, y17, y18, y19, y20, y21, y22, y23, y24, y25, y26, y27, y28, y29, y30, y31, y32, y33, y34, y35, y36, y37, y38, y39, y40, y41, y42, y43, y44, y45, y46, y47, y48, y49, y50, y51, y52, y53, y54, y55, y56, y57, y58, y59, y60, y61, y62, y63, y64, y65, y66, y67, y68, y69, y70, y71, y72, y73, y74, y75, y76, y77, y78, y79, y80, y81, hbh, rfl⟩ hlen
        rw [fillL_len] at hlen
        obtain ⟨r, hr⟩ : ∃ r, r = pre.length := ⟨_, rfl⟩
        rw [← hr] at h1 h2 h3 h4 h5 hlen
        have c_h : W.cell? ⟨bh, 0, none⟩ = some (.int .i64 x.1) := cells_at hbh 0
        have c_q : W.cell? ⟨bq, 0, none⟩ = some (.int .i64 r) := cells_at h4.q 0
        have f_q := free_at h4.q 0
        have c_r : W.cell? ⟨br, 0, none⟩ = some (.bool false) := cells_at h4.ls.r 0
        have f_r := free_at h4.ls.r 0
        have hw : IntKind.i64.wrap (100 + (r : Int)) = 100 + r := IntWalk.i64_in _ (by omega)
        have hw2 : IntKind.i64.wrap ((r : Int) + 1) = r + 1 := IntWalk.i64_in _ (by omega)
        have H4 := hidp h4
        have H1 := hidp h1
        have HR := hidp hr
        have H5 := hidp h5
        clear hbh h4 h1 hr h5
        by_cases hx1 : x.1 = r
        · by_cases hx2 : x.2.2 = 100 + (r : Int)
          · obtain ⟨S1, k1, o1⟩ := H4.out.put HB.out HA2.out (r + 1)
            rw [show ((r + 1 : Nat) : Int) = (r : Int) + 1 by omega] at S1 k1 o1
            have c_n : (W.setCell ⟨bq, 0, none⟩ (.int .i64 ((r : Int) + 1))).cell? ⟨bn, 0, none⟩ = some (.int .i64 j) := cells_at S1.ls.n 0
            have c_s : (W.setCell ⟨bq, 0, none⟩ (.int .i64 ((r : Int) + 1))).cell? ⟨bs, 0, none⟩ = some (.pointer (some ⟨c, 0, none⟩)) := cells_at S1.ls.s 0
            have c_q1 : (W.setCell ⟨bq, 0, none⟩ (.int .i64 ((r : Int) + 1))).cell? ⟨bq, 0, none⟩ = some (.int .i64 ((r : Int) + 1)) := by rw [cells_at S1.q 0]; simp
            have hw3 : IntKind.i64.wrap ((j : Int) - ((r : Int) + 1)) = j - (r + 1) := IntWalk.i64_in _ (by omega)
            have HS1 := hidp (And.intro S1 (And.intro k1 o1))
            clear S1 k1 o1
            gi_wp2
            refine ⟨trivial, (CallsIn.inRound l (callsIn_wide.2 (anydrop HS1.out.1.ls.own ((j : Int) - ((r : Int) + 1)) 1))).mono ?_⟩
            rintro e W2 ⟨⟨xv, ok, rfl⟩, L2, O2, l2, g2, K2⟩
            have S2 := HS1.out.1.step O2 K2
            clear c_q c_s c_n c_q1
            have c_q := cells_at S2.q 0
            have c_s := cells_at S2.ls.s 0
            have c_t := cells_at S2.ls.t 0
            simp only [List.getElem?_toArray, List.getElem?_cons_zero] at c_q c_s c_t
            rw [show ((r + 1 : Nat) : Int) = (r : Int) + 1 by omega] at c_q
            have HS2 := hidp S2
            have HK2 := hidp K2
            clear S2 O2 K2 c_r f_r f_q c_h
            gi_wp2
            refine ⟨trivial, (CallsIn.inRound l (callsIn_wide.2 (anyset HS2.out.ls.own ((r : Int) + 1) 1 (-1)))).mono ?_⟩
            rintro e W3 ⟨⟨ok2, rfl⟩, L3, O3, l3, g3, K3⟩
            have S3 := HS2.out.step O3 K3
            clear c_q c_s c_t
            have c_q := cells_at S3.q 0
            have c_s := cells_at S3.ls.s 0
            have c_t := cells_at S3.ls.t 0
            simp only [List.getElem?_toArray, List.getElem?_cons_zero] at c_q c_s c_t
            rw [show ((r + 1 : Nat) : Int) = (r : Int) + 1 by omega] at c_q
            have HS3 := hidp S3
            have HK3 := hidp K3
            clear S3 O3 K3
            have hg3 := g3 _ (g2 _ h2)
            have hl3 : L3.length ≤ j + r := by omega
            gi_wp2
            refine ⟨trivial, (CallsIn.inRound l (callsIn_wide.2 (anyput HS3.out.ls.own (fun d hd => by have := hg3 d hd; omega) (by omega) (-2)))).mono ?_⟩
            rintro e W4 ⟨rfl, O4, K4⟩
            have S4 := HS3.out.step O4 K4
            clear c_q c_s c_t
            have c_q := cells_at S4.q 0
            have c_s := cells_at S4.ls.s 0
            have c_t := cells_at S4.ls.t 0
            simp only [List.getElem?_toArray, List.getElem?_cons_zero] at c_q c_s c_t
            rw [show ((r + 1 : Nat) : Int) = (r : Int) + 1 by omega] at c_q
            have HS4 := hidp S4
            have HK4 := hidp K4
            clear S4 O4 K4
            have hpl : (pre ++ [x]).length = r + 1 := by simp [HR.out]
            have hmm : mm (pre ++ [x]) = told2 (r + 1) := by rw [mm_snoc, H1.out, told2_succ, hx1, hx2]
            have hinv : Inv w (fun k => A k ∨ k = bq) j stop bn bt br bs c bq (pre ++ [x]) W4 := by
              unfold Inv
              rw [hpl]
              exact ⟨hmm, _, fun d hd => by have := put_gens hg3 _ _ d hd; omega, by have := put_len L3 (.int .i64 0) (.int .i64 (-2)); omega, HS4.out⟩
            have hkp := ((HS1.out.2.1.trans HK2.out.kp).trans HK3.out.kp).trans HK4.out.kp
            have hko := ((HS1.out.2.2.trans HK2.out.others).trans HK3.out.others).trans HK4.out.others
            have HFin := hidp (And.intro hpl (And.intro hinv (And.intro hkp hko)))
            clear hpl hmm hinv hkp hko
            by_cases hst : stop = (r : Int) + 1
            · have t3 : (((r : Int) + 1) == stop) = true := by simp [hst]
              gi_wp2
              exact ⟨HFin.out.2.2.2.from _, .inr ⟨rfl, HFin.out.2.1, by omega, by rw [HFin.out.1]; omega⟩⟩
            · have t3 : (((r : Int) + 1) == stop) = false := by simp; omega
              gi_wp2
              refine ⟨HFin.out.2.2.2.from _, HFin.out.2.2.1, HFin.out.2.1, ?_⟩
              rw [HFin.out.1]
              have := H5.out
              omega
          · have t2 : (x.2.2 != 100 + (r : Int)) = true := by simpa using hx2
            gi_wp2
            refine ⟨(KeepsOthers.setCell _ _ _).from _, .inl ⟨rfl, ?_⟩⟩
            rw [mm_snoc, H1.out, show (pre ++ [x]).length = r + 1 by simp [HR.out], told2_succ]
            simp [hx2]
        · have t1 : ((x.1 : Int) != (r : Int)) = true := by simp; omega
          gi_wp2
          refine ⟨(KeepsOthers.setCell _ _ _).from _, .inl ⟨rfl, ?_⟩⟩
          rw [mm_snoc, H1.out, show (pre ++ [x]).length = r + 1 by simp [HR.out], told2_succ]
          simp [hx1]
      case done =>
        rintro D xs W hD hS ⟨⟨h1, L, h2, h3, h4⟩, h5⟩ hK
        have hx : xs.length = j := by rw [hS, fillL_len, fillL_its j j (by omega), told_len]
        rw [hx] at h4 h5
        have c_q : W.cell? ⟨bq, 0, none⟩ = some (.int .i64 j) := cells_at h4.q 0
        have c_n : W.cell? ⟨bn, 0, none⟩ = some (.int .i64 j) := cells_at h4.ls.n 0
        have c_t : W.cell? ⟨bt, 0, none⟩ = some (.int .i64 stop) := cells_at h4.ls.t 0
        have c_r : W.cell? ⟨br, 0, none⟩ = some (.bool false) := cells_at h4.ls.r 0
        have f_r := free_at h4.ls.r 0
        have H4 := hidp h4
        have HDK := hidp (And.intro hD hK)
        have hsp : (decide (1 ≤ stop) = false) ∨ (decide (1 ≤ stop) = true ∧ decide (stop < (j : Int)) = false) := by
          by_cases h : 1 ≤ stop
          · exact .inr ⟨by simpa using h, by simp; omega⟩
          · exact .inl (by simpa using h)
        clear h1 h2 h3 h4 h5 hS hx hD hK
        rcases hsp with t1 | ⟨t1, t2⟩
        all_goals
          gi_wp2
          refine ⟨trivial, (callsIn_wide.2 (awake_any W)).mono ?_⟩
          rintro e W9 ⟨rfl, K9⟩
          have S9 := H4.out.ls.own.still K9
          have S10 := H4.out.step S9.1 S9.2
          have c_r := cells_at S10.ls.r 0
          have f_r := free_at S10.ls.r 0
          simp only [List.getElem?_toArray, List.getElem?_cons_zero] at c_r
          have hK9 := (K9.block D (Array.getElem?_eq_some_iff.1 HDK.out.2).1 (fun h => h)).trans HDK.out.2
          have HK9 := hidp (And.intro S10 hK9)
          clear S9 S10 hK9
          gi_wp2
          have hbrD : D ≠ br := by rintro rfl; have h1 := HK9.out.2; rw [HK9.out.1.ls.r] at h1; cases h1
          have hKK : (W9.setCell ⟨br, 0, none⟩ (.bool true)).heap[D]? = some (.deferred (some [])) := (Below.heap_setCell _ _ _ _ hbrD).trans HK9.out.2
          refine ⟨by simp, .inl ⟨_, _, rfl, run_takeDeferred hKK, ?_⟩⟩
          have hres : ((W9.setCell ⟨br, 0, none⟩ (.bool true)).putObj D (.deferred none)).cell? ⟨br, 0, none⟩ = some (.bool true) := by
            rw [cell_of_heap (p := ⟨br, 0, none⟩) (World.putObj_heap_other hbrD.symm), cells_at (setCell_block HK9.out.1.ls.r 0 _) 0]
            rfl
          have hbel : Below w.heap.size w ((W9.setCell ⟨br, 0, none⟩ (.bool true)).putObj D (.deferred none)) := by
            have h1 : Keeps (fun _ => False) w W9 := HK9.out.1.ls.own.keeps
            have h2 := h1.setCell (p := ⟨br, 0, none⟩) (.inr (HA2.out _ (.inl HBR.out))) (.bool true)
            have h3 := h2.grown (grownBy_putObj' _ D (.deferred none)) (fun k hk => .inr (by simp at hk; have := HDK.out.1; omega))
            exact h3.below (Nat.le_refl _) (fun _ _ h => h)
          exact ⟨_, by simp [results, Try.results5, go_sem, hres], rfl, hbel⟩
      case stop =>
        rintro D cd pre W hD hSp h hK
        obtain ⟨k, hk, rfl⟩ := hSp
        rw [fillL_len] at hk
        rw [fillL_its j k hk] at h
        rcases h with ⟨rfl, hm⟩ | ⟨rfl, ⟨h1, L, h2, h3, h4⟩, h5, h6⟩
        · rw [told_len, mm_told] at hm
          exact (hm rfl).elim
        rw [told_len] at h4 h6
        subst h6
        have c_q : W.cell? ⟨bq, 0, none⟩ = some (.int .i64 k) := cells_at h4.q 0
        have c_n : W.cell? ⟨bn, 0, none⟩ = some (.int .i64 j) := cells_at h4.ls.n 0
        have c_t : W.cell? ⟨bt, 0, none⟩ = some (.int .i64 k) := cells_at h4.ls.t 0
        have c_r : W.cell? ⟨br, 0, none⟩ = some (.bool false) := cells_at h4.ls.r 0
        have f_r := free_at h4.ls.r 0
        have H4 := hidp h4
        have HDK := hidp (And.intro hD hK)
        have t1 : decide (1 ≤ (k : Int)) = true := by simpa using h5
        have t1' : decide (1 ≤ k) = true := by simp; omega
        have hsp : (decide (k < j) = true ∧ True) ∨ (decide (k < j) = false ∧ k = j) := by
          by_cases h : k < j
          · exact .inl ⟨by simpa using h, trivial⟩
          · exact .inr ⟨by simpa using h, by omega⟩
        clear h1 h2 h3 h4 h5 hD hK hk
        rcases hsp with ⟨t2, -⟩ | ⟨t2, rfl⟩
        all_goals
          gi_wp2
          refine ⟨trivial, (callsIn_wide.2 (awake_any W)).mono ?_⟩
          rintro e W9 ⟨rfl, K9⟩
          have S9 := H4.out.ls.own.still K9
          have S10 := H4.out.step S9.1 S9.2
          have c_r := cells_at S10.ls.r 0
          have f_r := free_at S10.ls.r 0
          simp only [List.getElem?_toArray, List.getElem?_cons_zero] at c_r
          have hK9 := (K9.block D (Array.getElem?_eq_some_iff.1 HDK.out.2).1 (fun h => h)).trans HDK.out.2
          have HK9 := hidp (And.intro S10 hK9)
          clear S9 S10 hK9
          gi_wp2
          have hbrD : D ≠ br := by rintro rfl; have h1 := HK9.out.2; rw [HK9.out.1.ls.r] at h1; cases h1
          have hKK : (W9.setCell ⟨br, 0, none⟩ (.bool true)).heap[D]? = some (.deferred (some [])) := (Below.heap_setCell _ _ _ _ hbrD).trans HK9.out.2
          refine ⟨by simp, .inl ⟨_, _, rfl, run_takeDeferred hKK, ?_⟩⟩
          have hres : ((W9.setCell ⟨br, 0, none⟩ (.bool true)).putObj D (.deferred none)).cell? ⟨br, 0, none⟩ = some (.bool true) := by
            rw [cell_of_heap (p := ⟨br, 0, none⟩) (World.putObj_heap_other hbrD.symm), cells_at (setCell_block HK9.out.1.ls.r 0 _) 0]
            rfl
          have hbel : Below w.heap.size w ((W9.setCell ⟨br, 0, none⟩ (.bool true)).putObj D (.deferred none)) := by
            have h1 : Keeps (fun _ => False) w W9 := HK9.out.1.ls.own.keeps
            have h2 := h1.setCell (p := ⟨br, 0, none⟩) (.inr (HA2.out _ (.inl HBR.out))) (.bool true)
            have h3 := h2.grown (grownBy_putObj' _ D (.deferred none)) (fun k hk => .inr (by simp at hk; have := HDK.out.1; omega))
            exact h3.below (Nat.le_refl _) (fun _ _ h => h)
          exact ⟨_, by simp [results, Try.results5, go_sem, hres], rfl, hbel⟩
end Go.Proofs.Ytnhcejbgkhhijaa
