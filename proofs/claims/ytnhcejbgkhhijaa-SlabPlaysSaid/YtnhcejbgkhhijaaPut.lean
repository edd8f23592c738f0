/- The slab's Put, at ints and at strings. -/
import Derived.Test.YtnhcejbgkhhijaaChange
namespace Go.Proofs.Ytnhcejbgkhhijaa
open Go.RowKit Go.Pairs

/-- where the world says no slot is free below. -/
def lowOf (w : World) (c : Nat) : Nat := match w.cell? ⟨c, 2, none⟩ with
  | some (.int _ n) => n.toNat
  | _ => 0

theorem slice_of {w : World} {B e sz : Nat} {v : Value} {n : Nat} {xs : List Value} (h : w.ownsRow B e sz v n xs) : ∃ ao cap, v = .slice ao n cap ∧ (0 < n → ∃ g, ao = some ⟨g, 0, none⟩ ∧ B ≤ g) := by
  rcases h.2 with ⟨h1, h2⟩ | ⟨g, cap, cur, h1, h2, -⟩
  · exact ⟨none, 0, by rw [h1, h2], by omega⟩
  · exact ⟨_, cap, h1, fun _ => ⟨g, rfl, h2⟩⟩

theorem row_owns {e : TypeId} {w : World} {c : Nat} {L : List Cl} {v : Value} {g : Option Nat} (h : Row e w c L v g) : w.ownsRow 0 e 3 v L.length (flat L) ∧ v.ownBlock = g ∧ g ≠ some c := by
  cases h with
  | none_ h => subst h; exact ⟨World.ownsRow_nil w 0 e 3, rfl, by simp⟩
  | row k cap cur h1 h2 h3 h4 h5 h6 => exact ⟨⟨flat_len L, .inr ⟨k, cap, cur, rfl, Nat.zero_le _, h2, h3, h4, h5, h6⟩⟩, rfl, by simpa using h1⟩

theorem owns_raw {e : TypeId} {w : World} {B : Nat} {v : Value} {n : Nat} {F : List Value} (hn : 0 < n) (h : w.ownsRow B e 3 v n F) : ∃ k cap, v = .slice (some ⟨k, 0, none⟩) n cap ∧ v.ownBlock = some k ∧ Raw e w k n cap F := by
  rcases h.2 with ⟨h1, h2⟩ | ⟨k, cap, cur, h1, h2, h3, h4, h5, h6, h7⟩
  · omega
  · exact ⟨k, cap, h1, by rw [h1]; rfl, cur, h3, h4, h5, h6, h7⟩

/-- the slot that Put fills. -/
structure Fill (L P : List Cl) (p : Nat) (z x : Value) : Prop where
  lt : p < P.length
  free : P[p].has = false
  cnt : cnt P = cnt L
  put : putL L z x = P.set p ⟨P[p].gen + 1, true, x⟩
  gen : putG L = P[p].gen + 1
  eq : p = ff L
  before : ∀ j (h : j < P.length), j < p → P[j].has = true
  len : P.length ≤ L.length + 1
  els : ∀ d ∈ P, d ∈ L ∨ d = ⟨0, false, z⟩

theorem fill_in {L : List Cl} (h : ff L < L.length) (z x : Value) : Fill L L (ff L) z x := by
  have hp : padL L z = L := by simp [padL, h]
  refine ⟨h, ff_free L h, rfl, ?_, ?_, rfl, ff_before L, by omega, fun d hd => .inl hd⟩
  · unfold putL
    rw [hp, List.getElem?_eq_getElem h]
    rfl
  · unfold putG
    rw [List.getElem?_eq_getElem h]
    rfl

theorem fill_new {L : List Cl} (h : ff L = L.length) (z x : Value) : Fill L (L ++ [⟨0, false, z⟩]) (ff L) z x := by
  have hp : padL L z = L ++ [⟨0, false, z⟩] := by simp [padL, h]
  refine ⟨by simp [h], by simp [h], by simp [cnt], ?_, ?_, rfl, ?_, by simp, fun d hd => by simpa using hd⟩
  · unfold putL
    rw [hp, List.getElem?_eq_getElem (by simp [h])]
    rfl
  · unfold putG
    simp [h]
  · intro j hj hlt
    rw [List.getElem_append_left (by omega)]
    exact ff_before L j (by omega) hlt

theorem cell_three_new (w : World) (x y z : Value) (t : TypeId) : ∀ j u, [x, y, z][j]? = some u → (w.alloc (.cells #[x, y, z] t)).cell? ((⟨w.heap.size, 0, none⟩ : Addr).add j) = some u := by
  intro j u hj
  match j, hj with
  | 0, hj => simp at hj; subst hj; simp [Addr.add]
  | 1, hj => simp at hj; subst hj; exact cells_at (heap_alloc_new w _) 1
  | 2, hj => simp at hj; subst hj; exact cells_at (heap_alloc_new w _) 2

/-- before a slot is filled. -/
structure Ready (e st : TypeId) (w : World) (c : Nat) (g : Option Nat) (P : List Cl) (p n k cap : Nat) (W : World) : Prop where
  raw : Raw e W k P.length cap (flat P)
  cell : W.heap[c]? = some (.cells #[.slice (some ⟨k, 0, none⟩) P.length cap, .int .i64 n, .int .i64 p] st (0, 0))
  kc : k ≠ c
  kw : k ≠ w.heap.size
  from_ : g = some k ∨ w.heap.size < k
  keeps : Keeps (fun j => j = c ∨ some j = g) w W
  res : W.heap[w.heap.size]? = some (.cells #[.int .i64 0, .int .i64 0] 27 (0, 0))

theorem Ready.drewN {e st : TypeId} {w : World} {c : Nat} {g : Option Nat} {P : List Cl} {p n k cap : Nat} {W : World} (h : Ready e st w c g P p n k cap W) (m : Nat) : Ready e st w c g P p n k cap (W.drewN m) :=
  ⟨h.raw, h.cell, h.kc, h.kw, h.from_, keeps_drewN h.keeps m, h.res⟩


theorem info61 : (Try.prog.info? 61).map (fun i => (i.zero, i.size, i.bytes)) = some (some (.agg #[.int .i64 0, .bool false, .int .i64 0]), 3, 24) := by kernel_rfl
theorem SL_i.up {w : World} {c : Nat} {v : Value} {g : Option Nat} {L : List Cl} {low : Nat} (h : SL_i w c v g L low) (hl : low + 1 ≤ ff L) (n : Nat) : SL_i ((w.drewN n).setCell ⟨c, 2, none⟩ (.int .i64 ((low : Int) + 1))) c v g L (low + 1) := by
  have hh : (w.drewN n).heap = w.heap := rfl
  refine ⟨?_, ?_, hl, h.len, h.els⟩
  · rw [setCell_block (by rw [hh]; exact h.cell)]
    simp
  · cases h.row with
    | none_ he => exact .none_ he
    | row k cap cur h1 h2 h3 h4 h5 h6 => exact .row k cap cur h1 ((Below.heap_setCell _ _ _ _ (by simpa using h1)).trans h2) h3 h4 h5 h6

set_option maxHeartbeats 4000000 in
theorem put_i {w : World} {c : Nat} {v : Value} {g : Option Nat} {L : List Cl} {low : Nat} (h : SL_i w c v g L low) (hgen : ∀ d ∈ L, d.gen ≤ 1000000) (hlen : L.length + 1 ≤ 1000000) (x : Int) :
    Calls Try.prog 8 #[.pointer (some ⟨c, 0, none⟩), Value.int .i64 x] w fun e w' => e = .returned (.agg #[.int .i64 (ff L), .int .i64 (putG L)]) ∧ Did_i w c g (putL L (.int .i64 0) (Value.int .i64 x)) w' := by
  obtain ⟨i0, hi, hz0, hz1, hz2⟩ := info_parts info61
  have hcs := (Array.getElem?_eq_some_iff.1 h.cell).1
  have K0 := (Keeps.refl (fun j => j = c) w).alloc (.cells #[.int .i64 0, .int .i64 0] 27)
  have h1 := h.keep ((Keeps.refl (fun _ => False) w).alloc (.cells #[.int .i64 0, .int .i64 0] 27)) (by simp) (by simp)
  have a0 : (w.alloc (.cells #[.int .i64 0, .int .i64 0] 27)).heap[w.heap.size]? = _ := heap_alloc_new w _
  have hgc := (row_owns h.row).2
  have HE := hidp h.els
  have hgw : g ≠ some w.heap.size := by
    cases h.row with
    | none_ _ => simp
    | row k cap cur p1 p2 => have := (Array.getElem?_eq_some_iff.1 p2).1; simp; omega
  obtain ⟨W1, hW1⟩ : ∃ W1, W1 = w.alloc (.cells #[.int .i64 0, .int .i64 0] 27) := ⟨_, rfl⟩
  rw [← hW1] at K0 h1 a0
  have HA := hidp a0
  have HK := hidp K0
  have hW1s : w.heap.size < W1.heap.size := by rw [hW1]; simp
  clear h a0 K0
  go_enter Try.func8, Try.ntmps8
  go_wp2_with fail
  rw [← hW1]
  clear hW1
  go_loopw [] (fun wr => ∃ lw, SL_i wr c v g L lw ∧ Keeps (fun j => j = c) W1 wr) (fun wr => ff L - lowOf wr c)
  case atStart => exact ⟨low, h1, Keeps.refl _ _⟩
  case round =>
    obtain ⟨lw, h2, K2⟩ := hrel
    clear h1
    have hle := h2.le
    have c0 : wr.cell? ⟨c, 0, none⟩ = some v := cells_at h2.cell 0
    have c2 : wr.cell? ⟨c, 2, none⟩ = some (.int .i64 lw) := cells_at h2.cell 2
    have f2 := free_at h2.cell 2
    have hff := ff_le L
    by_cases hlt : lw < ff L
    · obtain ⟨k, cap, rfl, rfl, hc1, hc2, r0, r1, r2⟩ := row_read h2.row (show lw < L.length by omega)
      rw [ff_before L lw (by omega) hlt] at r1
      have t1 : decide (lw < L.length) = true := by simp; omega
      have hw : IntKind.i64.wrap ((lw : Int) + 1) = lw + 1 := IntWalk.i64_in _ (by omega)
      have H2 := hidp h2
      have HK2 := hidp K2
      clear h2 K2 r0 r2
      go_wp2_with fail
      go_quiet (fail)
      go_wp2_with fail
      refine ⟨⟨lw + 1, H2.out.up (by omega) nq, (keeps_drewN HK2.out nq).setCell (.inl rfl) _⟩, ?_⟩
      have e1 : lowOf wr c = lw := by simp [lowOf, c2]
      have e2 : lowOf ((wr.drewN nq).setCell ⟨c, 2, none⟩ (.int .i64 ((lw : Int) + 1))) c = lw + 1 := by
        have := (H2.out.up (by omega) nq).cell
        unfold lowOf
        rw [cells_at this 2]
        simp
      rw [e1, e2]
      omega
    · obtain rfl : lw = ff L := by omega
      obtain ⟨p, hp⟩ : ∃ p, p = ff L := ⟨_, rfl⟩
      have hpl : p ≤ L.length := by omega
      have HP := hidp hp
      by_cases hpl2 : p < L.length
      · obtain ⟨k, cap, hgk, rfl, hkc, hraw⟩ := row_raw h2.row (show ff L < L.length by omega)
        have r1 : wr.cell? ⟨k, ff L * 3 + 1, none⟩ = some (.bool L[ff L].has) := (raw_cell hraw (by omega)).trans (flat_get L (ff L) (by omega)).2.1
        rw [ff_free L (by omega)] at r1
        rw [← hp] at h2 c2 r1
        have t1 : decide (p < L.length) = true := by simpa using hpl2
        have t2 : ((p : Int) == (L.length : Int)) = false := by simp; omega
        obtain ⟨P, HFi, HR⟩ : ∃ P, Hid (Fill L P p (.int .i64 0) (Value.int .i64 x)) ∧ Hid (∀ n m, Ready 61 59 w c g P p (cnt L) k cap ((wr.drewN n).drewN m)) := by
          refine ⟨L, hidp (hp ▸ fill_in (by omega) _ _), hidp fun n m => Ready.drewN (Ready.drewN ⟨hraw, h2.cell, hkc, ?_, .inl hgk, (HK.out.mono (fun _ _ h => .inl h)).then_ (K2.mono (fun _ _ h => .inl h)) (fun _ _ h => h), (K2.block _ hW1s (by show ¬ w.heap.size = c; omega)).trans HA.out⟩ n) m⟩
          rintro rfl
          exact hgw hgk
        clear h2 K2 hle hff hp hlt hraw HK HA hgw hgk hgc
        go_wp2_with fail
        go_quiet (fail)
        obtain ⟨n1, hn1⟩ : ∃ n, n = nq := ⟨_, rfl⟩
        subst hn1
        go_wp2_with fail
        go_quiet (fail)
        go_wp2_with fail
        have HR := hidp (HR.out n1 nq)
        obtain ⟨W5, hW5⟩ : ∃ W5, W5 = (wr.drewN n1).drewN nq := ⟨_, rfl⟩
        rw [← hW5] at HR ⊢
        clear hW5 c0 c2 f2 r1 t1 t2
        have b0 := cells_at HR.out.cell 0
        have b2 := cells_at HR.out.cell 2
        simp only [List.getElem?_toArray, List.getElem?_cons_succ, List.getElem?_cons_zero] at b0 b2
        have hPl := HFi.out.lt
        go_quiet (fail)
        have HR := hidp (HR.out.drewN nq)
        obtain ⟨W6, hW6⟩ : ∃ W6, W6 = W5.drewN nq := ⟨_, rfl⟩
        rw [← hW6] at HR ⊢
        clear hW6 b0 b2
        obtain ⟨G, hG⟩ : ∃ G, G = P[p].gen := ⟨_, rfl⟩
        obtain ⟨n, hn⟩ : ∃ n, n = cnt L := ⟨_, rfl⟩
        rw [← hn] at HR
        have hkw := HR.out.kw
        have hkc := HR.out.kc
        obtain ⟨q1, q2, q3⟩ := flat_get P p hPl
        rw [← hG] at q1
        have r0 : W6.cell? ⟨k, p * 3, none⟩ = some (.int .i64 G) := (raw_cell HR.out.raw (by omega)).trans q1
        obtain ⟨hb, r1⟩ : ∃ hb, W6.cell? ⟨k, p * 3 + 1, none⟩ = some (.bool hb) := ⟨_, (raw_cell HR.out.raw (by omega)).trans q2⟩
        obtain ⟨xv, r2⟩ : ∃ xv, W6.cell? ⟨k, p * 3 + 2, none⟩ = some xv := ⟨_, (raw_cell HR.out.raw (by omega)).trans q3⟩
        have b1 := cells_at HR.out.cell 1
        have b2 := cells_at HR.out.cell 2
        have d1 := free_at HR.out.cell 1
        simp only [List.getElem?_toArray, List.getElem?_cons_succ, List.getElem?_cons_zero] at b1 b2
        have f0 := raw_free HR.out.raw (p * 3)
        have f1 := raw_free HR.out.raw (p * 3 + 1)
        have f2 := raw_free HR.out.raw (p * 3 + 2)
        have hGb : G ≤ 1000000 := by
          rw [hG]
          rcases HFi.out.els P[p] (List.getElem_mem hPl) with h | h
          · exact hgen _ h
          · rw [h]; exact Nat.zero_le _
        have hnb : n ≤ 1000000 := by have := cnt_le L; omega
        have hw1 : IntKind.i64.wrap ((G : Int) + 1) = G + 1 := IntWalk.i64_in _ (by omega)
        have hw2 : IntKind.i64.wrap ((n : Int) + 1) = n + 1 := IntWalk.i64_in _ (by omega)
        obtain ⟨W7, hW7⟩ : ∃ W7, W7 = (((W6.setCell ⟨k, p * 3, none⟩ (.int .i64 ((G : Int) + 1))).setCell ⟨k, p * 3 + 1, none⟩ (.bool true)).setCell ⟨k, p * 3 + 2, none⟩ (Value.int .i64 x)).setCell ⟨c, 1, none⟩ (.int .i64 ((n : Int) + 1)) := ⟨_, rfl⟩
        have hr7 : Raw 61 W7 k P.length cap (flat (P.set p ⟨G + 1, true, Value.int .i64 x⟩)) := by
          have := raw_other (raw_set (raw_set (raw_set HR.out.raw (p * 3) (.int .i64 ((G : Int) + 1))) (p * 3 + 1) (.bool true)) (p * 3 + 2) (Value.int .i64 x)) hkc 1 (.int .i64 ((n : Int) + 1))
          rw [← hW7, show (G : Int) + 1 = ((G + 1 : Nat) : Int) by omega, flat_set P p hPl] at this
          exact this
        have hc7 : W7.heap[c]? = some (.cells #[.slice (some ⟨k, 0, none⟩) P.length cap, .int .i64 ((n : Int) + 1), .int .i64 p] 59 (0, 0)) := by
          rw [hW7, setCell_block (by rw [Below.heap_setCell _ _ _ _ (by simpa using (Ne.symm hkc)), Below.heap_setCell _ _ _ _ (by simpa using (Ne.symm hkc)), Below.heap_setCell _ _ _ _ (by simpa using (Ne.symm hkc))]; exact HR.out.cell)]
          simp
        have ha7 : W7.heap[w.heap.size]? = some (.cells #[.int .i64 0, .int .i64 0] 27 (0, 0)) := by
          rw [hW7, Below.heap_setCell _ _ _ _ (by simp; omega), Below.heap_setCell _ _ _ _ (by simp; omega), Below.heap_setCell _ _ _ _ (by simp; omega), Below.heap_setCell _ _ _ _ (by simp; omega)]; exact HR.out.res
        have hSk : (k = c ∨ some k = g) ∨ w.heap.size ≤ k := by
          rcases HR.out.from_ with h | h
          · exact .inl (.inr h.symm)
          · exact .inr (Nat.le_of_lt h)
        have K7 : Keeps (fun j => j = c ∨ some j = g) w W7 := hW7 ▸ (((HR.out.keeps.setCell hSk _).setCell hSk _).setCell hSk _).setCell (.inl (.inl rfl)) _
        have H7 := hidp (And.intro hr7 (And.intro hc7 (And.intro ha7 K7)))
        have HW := hidp hW7
        have HG := hidp hG
        have HN := hidp hn
        have HPl := hidp hPl
        have hfr := HR.out.from_
        have HFR := hidp hfr
        clear hr7 hc7 ha7 K7 hW7 hSk hG hn q1 q2 q3 hfr HR
        go_wp2_with fail
        rw [← HW.out]
        obtain ⟨hr7, hc7, ha7, K7⟩ := H7.out
        have x2 := cells_at hc7 2
        simp only [List.getElem?_toArray, List.getElem?_cons_succ, List.getElem?_cons_zero] at x2
        have x0 : W7.cell? ⟨k, p * 3, none⟩ = some (.int .i64 ((G : Int) + 1)) := by
          rw [raw_cell hr7 (by have := HPl.out; omega), (flat_get (P.set p ⟨G + 1, true, Value.int .i64 x⟩) p (by simpa using HPl.out)).1]
          simp
        clear hr7 hc7 ha7 K7 f0 f1 f2 r0 r1 r2 b1 b2 d1 hw1 hw2 HW
        go_still_tail 9, (by kernel_rfl)
        change wpList _ _ _ _ _ W7.drew
        obtain ⟨W8, hW8⟩ : ∃ W8, W8 = W7.drew := ⟨_, rfl⟩
        rw [← hW8]
        have hh : W8.heap = W7.heap := by rw [hW8]; rfl
        obtain ⟨hr7, hc7, ha7, K7⟩ := H7.out
        have K8 := K7.drew
        rw [← hW8] at K8
        rw [← hh] at hc7 ha7
        have hr8 : Raw 61 W8 k P.length cap (flat (P.set p ⟨G + 1, true, Value.int .i64 x⟩)) := by
          obtain ⟨cur, h2, h3⟩ := hr7
          exact ⟨cur, by rw [hh]; exact h2, h3⟩
        have y0 := cells_at ha7 0
        have y1 := cells_at ha7 1
        have g0 := free_at ha7 0
        have g1 := free_at ha7 1
        simp only [List.getElem?_toArray, List.getElem?_cons_succ, List.getElem?_cons_zero] at y0 y1
        have hput := HFi.out.put
        have hgn := HFi.out.gen
        rw [← HG.out] at hput hgn
        have heq := HFi.out.eq
        have hfin : Did_i w c g (putL L (.int .i64 0) (Value.int .i64 x)) ((W8.setCell ⟨w.heap.size, 0, none⟩ (.int .i64 p)).setCell ⟨w.heap.size, 1, none⟩ (.int .i64 ((G : Int) + 1))) := by
          have hcn : ((n : Int) + 1) = cnt (P.set p ⟨G + 1, true, Value.int .i64 x⟩) := by
            have := cnt_set P p hPl ⟨G + 1, true, Value.int .i64 x⟩
            simp [HFi.out.free] at this
            rw [this, HFi.out.cnt, ← HN.out]
            simp
          refine ⟨.slice (some ⟨k, 0, none⟩) P.length cap, some k, p, ⟨?_, ?_, ?_, ?_, ?_⟩, ?_, (K8.setCell (.inr (Nat.le_refl _)) _).setCell (.inr (Nat.le_refl _)) _⟩
          · rw [Below.heap_setCell _ _ _ _ (by simp; omega), Below.heap_setCell _ _ _ _ (by simp; omega), hc7, hput, hcn]
          · rw [hput]
            exact raw_row hkc (List.length_set ..).symm (raw_other (raw_other hr8 hkw _ _) hkw _ _)
          · rw [hput]
            refine le_ff (by simp; exact Nat.le_of_lt hPl) fun j hj hlt => ?_
            rw [List.getElem_set_ne (by omega)]
            exact HFi.out.before j (by simpa using hj) hlt
          · rw [hput]
            have := HFi.out.len
            simp; omega
          · rw [hput]
            intro d hd
            rcases List.mem_or_eq_of_mem_set hd with h | h
            · rcases HFi.out.els d h with h | h
              · exact HE.out d h
              · exact ⟨_, by rw [h]⟩
            · exact ⟨x, by rw [h]⟩
          · rcases HFR.out with h | h
            · exact .inl h.symm
            · exact .inr ⟨k, rfl, Nat.le_of_lt h⟩
        have HF := hidp hfin
        clear hfin hW8 hh hr7 hc7 ha7 K7 K8 hr8 x0 x2 hput H7 HG HN HFR HFi
        go_wp2_with fail
        rw [← heq, hgn]
        exact bodyPost_ret (v := .agg #[.int .i64 p, .int .i64 ((G : Int) + 1)]) (by simp [results, Try.results8, go_sem, y0, y1]) rfl ⟨by simp, HF.out⟩
      · obtain ⟨ao, cp, rfl⟩ := row_len h2.row
        have hpe : p = L.length := by omega
        rw [← hp] at h2 c2
        have t1 : decide (p < L.length) = false := by simp; omega
        have t2 : ((p : Int) == (L.length : Int)) = true := by simp; omega
        obtain ⟨hown0, hob⟩ := row_owns h2.row
        have hown : wr.ownsRow 0 61 3 (.slice ao L.length cp) L.length (flat L) ∧ Keeps (fun j => j = c ∨ some j = g) w wr ∧ wr.heap[c]? = some (.cells #[.slice ao L.length cp, .int .i64 (cnt L), .int .i64 p] 59 (0, 0)) ∧ wr.heap[w.heap.size]? = some (.cells #[.int .i64 0, .int .i64 0] 27 (0, 0)) :=
          ⟨hown0, (HK.out.mono (fun _ _ h => .inl h)).then_ (K2.mono (fun _ _ h => .inl h)) (fun _ _ h => h), h2.cell, (K2.block _ hW1s (by show ¬ w.heap.size = c; omega)).trans HA.out⟩
        have hff' : ff L = L.length := by omega
        have HFi := hidp (hp ▸ fill_new hff' (.int .i64 0) (Value.int .i64 x))
        have HOB := hidp hob
        have HO := hidp hown
        clear h2 K2 hle hff hp hlt HK HA hgc hown0 hown hob hff' hpe
        go_wp2_with fail
        go_quiet (fail)
        obtain ⟨n1, hn1⟩ : ∃ n, n = nq := ⟨_, rfl⟩
        subst hn1
        go_wp2_with fail
        go_quiet (fail)
        obtain ⟨hown, hK, hcell, hres⟩ : ((wr.drewN n1).drewN nq).ownsRow 0 61 3 (.slice ao L.length cp) L.length (flat L) ∧ Keeps (fun j => j = c ∨ some j = g) w ((wr.drewN n1).drewN nq) ∧ ((wr.drewN n1).drewN nq).heap[c]? = some (.cells #[.slice ao L.length cp, .int .i64 (cnt L), .int .i64 p] 59 (0, 0)) ∧ ((wr.drewN n1).drewN nq).heap[w.heap.size]? = some (.cells #[.int .i64 0, .int .i64 0] 27 (0, 0)) :=
          ⟨HO.out.1, keeps_drewN (keeps_drewN HO.out.2.1 _) _, HO.out.2.2⟩
        obtain ⟨W4, hW4⟩ : ∃ W4, W4 = (wr.drewN n1).drewN nq := ⟨_, rfl⟩
        rw [← hW4] at hown hK hcell hres ⊢
        clear hW4 c0 c2 f2
        have c0 : W4.cell? ⟨c, 0, none⟩ = some (.slice ao L.length cp) := cells_at hcell 0
        have HC := hidp hcell
        have HRs := hidp hres
        have HK4 := hidp hK
        have hks := hK.size
        have hcs4 : c < W4.heap.size := by omega
        clear hcell hres hK HO
        go_wp2_with (at_builtin; refine wpList_append_own_at _ rfl _ _ 57 rfl 0 61 i0 (.agg #[.int .i64 0, .bool false, .int .i64 0]) 3 24 Try.underlying57 hi hz0 hz1 hz2 rfl (by decide) _ _ _ rfl (hown.alloc _) ⟨W4.heap.size, 0, none⟩ 1 1 [.int .i64 0, .bool false, .int .i64 0] rfl rfl (cell_three_new _ _ _ _ _) ?c2 ?c3 ?c4 ?c5 ?_)
        case c2 => intro u hu; simp at hu; rcases hu with rfl | rfl | rfl <;> rfl
        case c3 => unfold maxLen; omega
        case c4 => omega
        case c5 => simp
        intro v' w7 hown7 hgr7 hnil7 hloc7
        obtain ⟨k, cap, rfl, hk1, hraw⟩ := owns_raw (by omega) hown7
        obtain ⟨ho1, ho2⟩ := HOB.out
        have K7 : Keeps (fun j => j = c ∨ some j = g) w w7 := (HK4.out.alloc _).grown hgr7 (fun j hj => .inl (.inr (hj.symm.trans ho1)))
        have K8 : Keeps (fun j => some j = g) W4 w7 := ((Keeps.refl _ _).alloc _).grown hgr7 (fun j hj => .inl (hj.symm.trans ho1))
        have hc7 := (K8.block c hcs4 (fun e => ho2 e.symm)).trans HC.out
        have hr7 := (K8.block w.heap.size (by have := (Array.getElem?_eq_some_iff.1 HRs.out).1; exact this) (fun e => hgw e.symm)).trans HRs.out
        have hcell0 := cells_at hc7 0
        have hfree0 := free_at hc7 0
        simp only [List.getElem?_toArray, List.getElem?_cons_zero] at hcell0
        have hkk : g = some k ∨ W4.heap.size < k := by
          rcases hloc7 with h | h
          · exact .inl (by rw [← ho1, ← h, hk1])
          · refine .inr ?_
            rw [hk1] at h
            simp at h; omega
        have hkc : k ≠ c := by
          rintro rfl
          rcases hkk with h | h
          · exact ho2 h
          · omega
        have hR : Ready 61 59 w c g (L ++ [⟨0, false, .int .i64 0⟩]) p (cnt L) k cap (w7.setCell ⟨c, 0, none⟩ (.slice (some ⟨k, 0, none⟩) (L.length + 1) cap)) := by
          have hsz := (Array.getElem?_eq_some_iff.1 HRs.out).1
          refine ⟨?_, ?_, hkc, ?_, ?_, K7.setCell (.inl (.inl rfl)) _, ?_⟩
          · have := raw_other hraw hkc 0 (.slice (some ⟨k, 0, none⟩) (L.length + 1) cap)
            rw [flat_snoc]
            simpa using this
          · rw [setCell_block hc7]
            simp
          · rintro rfl
            rcases hkk with h | h
            · exact hgw h
            · omega
          · rcases hkk with h | h
            · exact .inl h
            · exact .inr (by omega)
          · rw [Below.heap_setCell _ _ _ _ (by simp; omega)]; exact hr7
        obtain ⟨P, HFi, HR⟩ : ∃ P, Hid (Fill L P p (.int .i64 0) (Value.int .i64 x)) ∧ Hid (Ready 61 59 w c g P p (cnt L) k cap (w7.setCell ⟨c, 0, none⟩ (.slice (some ⟨k, 0, none⟩) (L.length + 1) cap))) := ⟨_, HFi, hidp hR⟩
        clear hR hkc hkk hr7 hc7 K8 K7 ho1 ho2 hk1 hraw hloc7 hnil7 hgr7 hown7 hown HOB HC HRs HK4 hgw
        go_wp2_with fail
        obtain ⟨W5, hW5⟩ : ∃ W5, W5 = w7.setCell ⟨c, 0, none⟩ (.slice (some ⟨k, 0, none⟩) (L.length + 1) cap) := ⟨_, rfl⟩
        rw [← hW5] at HR ⊢
        clear hW5 c0 t1 t2 hcell0 hfree0
        have b0 := cells_at HR.out.cell 0
        have b2 := cells_at HR.out.cell 2
        simp only [List.getElem?_toArray, List.getElem?_cons_succ, List.getElem?_cons_zero] at b0 b2
        have hPl := HFi.out.lt
        go_quiet (fail)
        have HR := hidp (HR.out.drewN nq)
        obtain ⟨W6, hW6⟩ : ∃ W6, W6 = W5.drewN nq := ⟨_, rfl⟩
        rw [← hW6] at HR ⊢
        clear hW6 b0 b2
        obtain ⟨G, hG⟩ : ∃ G, G = P[p].gen := ⟨_, rfl⟩
        obtain ⟨n, hn⟩ : ∃ n, n = cnt L := ⟨_, rfl⟩
        rw [← hn] at HR
        have hkw := HR.out.kw
        have hkc := HR.out.kc
        obtain ⟨q1, q2, q3⟩ := flat_get P p hPl
        rw [← hG] at q1
        have r0 : W6.cell? ⟨k, p * 3, none⟩ = some (.int .i64 G) := (raw_cell HR.out.raw (by omega)).trans q1
        obtain ⟨hb, r1⟩ : ∃ hb, W6.cell? ⟨k, p * 3 + 1, none⟩ = some (.bool hb) := ⟨_, (raw_cell HR.out.raw (by omega)).trans q2⟩
        obtain ⟨xv, r2⟩ : ∃ xv, W6.cell? ⟨k, p * 3 + 2, none⟩ = some xv := ⟨_, (raw_cell HR.out.raw (by omega)).trans q3⟩
        have b1 := cells_at HR.out.cell 1
        have b2 := cells_at HR.out.cell 2
        have d1 := free_at HR.out.cell 1
        simp only [List.getElem?_toArray, List.getElem?_cons_succ, List.getElem?_cons_zero] at b1 b2
        have f0 := raw_free HR.out.raw (p * 3)
        have f1 := raw_free HR.out.raw (p * 3 + 1)
        have f2 := raw_free HR.out.raw (p * 3 + 2)
        have hGb : G ≤ 1000000 := by
          rw [hG]
          rcases HFi.out.els P[p] (List.getElem_mem hPl) with h | h
          · exact hgen _ h
          · rw [h]; exact Nat.zero_le _
        have hnb : n ≤ 1000000 := by have := cnt_le L; omega
        have hw1 : IntKind.i64.wrap ((G : Int) + 1) = G + 1 := IntWalk.i64_in _ (by omega)
        have hw2 : IntKind.i64.wrap ((n : Int) + 1) = n + 1 := IntWalk.i64_in _ (by omega)
        obtain ⟨W7, hW7⟩ : ∃ W7, W7 = (((W6.setCell ⟨k, p * 3, none⟩ (.int .i64 ((G : Int) + 1))).setCell ⟨k, p * 3 + 1, none⟩ (.bool true)).setCell ⟨k, p * 3 + 2, none⟩ (Value.int .i64 x)).setCell ⟨c, 1, none⟩ (.int .i64 ((n : Int) + 1)) := ⟨_, rfl⟩
        have hr7 : Raw 61 W7 k P.length cap (flat (P.set p ⟨G + 1, true, Value.int .i64 x⟩)) := by
          have := raw_other (raw_set (raw_set (raw_set HR.out.raw (p * 3) (.int .i64 ((G : Int) + 1))) (p * 3 + 1) (.bool true)) (p * 3 + 2) (Value.int .i64 x)) hkc 1 (.int .i64 ((n : Int) + 1))
          rw [← hW7, show (G : Int) + 1 = ((G + 1 : Nat) : Int) by omega, flat_set P p hPl] at this
          exact this
        have hc7 : W7.heap[c]? = some (.cells #[.slice (some ⟨k, 0, none⟩) P.length cap, .int .i64 ((n : Int) + 1), .int .i64 p] 59 (0, 0)) := by
          rw [hW7, setCell_block (by rw [Below.heap_setCell _ _ _ _ (by simpa using (Ne.symm hkc)), Below.heap_setCell _ _ _ _ (by simpa using (Ne.symm hkc)), Below.heap_setCell _ _ _ _ (by simpa using (Ne.symm hkc))]; exact HR.out.cell)]
          simp
        have ha7 : W7.heap[w.heap.size]? = some (.cells #[.int .i64 0, .int .i64 0] 27 (0, 0)) := by
          rw [hW7, Below.heap_setCell _ _ _ _ (by simp; omega), Below.heap_setCell _ _ _ _ (by simp; omega), Below.heap_setCell _ _ _ _ (by simp; omega), Below.heap_setCell _ _ _ _ (by simp; omega)]; exact HR.out.res
        have hSk : (k = c ∨ some k = g) ∨ w.heap.size ≤ k := by
          rcases HR.out.from_ with h | h
          · exact .inl (.inr h.symm)
          · exact .inr (Nat.le_of_lt h)
        have K7 : Keeps (fun j => j = c ∨ some j = g) w W7 := hW7 ▸ (((HR.out.keeps.setCell hSk _).setCell hSk _).setCell hSk _).setCell (.inl (.inl rfl)) _
        have H7 := hidp (And.intro hr7 (And.intro hc7 (And.intro ha7 K7)))
        have HW := hidp hW7
        have HG := hidp hG
        have HN := hidp hn
        have HPl := hidp hPl
        have hfr := HR.out.from_
        have HFR := hidp hfr
        clear hr7 hc7 ha7 K7 hW7 hSk hG hn q1 q2 q3 hfr HR
        go_wp2_with fail
        rw [← HW.out]
        obtain ⟨hr7, hc7, ha7, K7⟩ := H7.out
        have x2 := cells_at hc7 2
        simp only [List.getElem?_toArray, List.getElem?_cons_succ, List.getElem?_cons_zero] at x2
        have x0 : W7.cell? ⟨k, p * 3, none⟩ = some (.int .i64 ((G : Int) + 1)) := by
          rw [raw_cell hr7 (by have := HPl.out; omega), (flat_get (P.set p ⟨G + 1, true, Value.int .i64 x⟩) p (by simpa using HPl.out)).1]
          simp
        clear hr7 hc7 ha7 K7 f0 f1 f2 r0 r1 r2 b1 b2 d1 hw1 hw2 HW
        go_still_tail 9, (by kernel_rfl)
        change wpList _ _ _ _ _ W7.drew
        obtain ⟨W8, hW8⟩ : ∃ W8, W8 = W7.drew := ⟨_, rfl⟩
        rw [← hW8]
        have hh : W8.heap = W7.heap := by rw [hW8]; rfl
        obtain ⟨hr7, hc7, ha7, K7⟩ := H7.out
        have K8 := K7.drew
        rw [← hW8] at K8
        rw [← hh] at hc7 ha7
        have hr8 : Raw 61 W8 k P.length cap (flat (P.set p ⟨G + 1, true, Value.int .i64 x⟩)) := by
          obtain ⟨cur, h2, h3⟩ := hr7
          exact ⟨cur, by rw [hh]; exact h2, h3⟩
        have y0 := cells_at ha7 0
        have y1 := cells_at ha7 1
        have g0 := free_at ha7 0
        have g1 := free_at ha7 1
        simp only [List.getElem?_toArray, List.getElem?_cons_succ, List.getElem?_cons_zero] at y0 y1
        have hput := HFi.out.put
        have hgn := HFi.out.gen
        rw [← HG.out] at hput hgn
        have heq := HFi.out.eq
        have hfin : Did_i w c g (putL L (.int .i64 0) (Value.int .i64 x)) ((W8.setCell ⟨w.heap.size, 0, none⟩ (.int .i64 p)).setCell ⟨w.heap.size, 1, none⟩ (.int .i64 ((G : Int) + 1))) := by
          have hcn : ((n : Int) + 1) = cnt (P.set p ⟨G + 1, true, Value.int .i64 x⟩) := by
            have := cnt_set P p hPl ⟨G + 1, true, Value.int .i64 x⟩
            simp [HFi.out.free] at this
            rw [this, HFi.out.cnt, ← HN.out]
            simp
          refine ⟨.slice (some ⟨k, 0, none⟩) P.length cap, some k, p, ⟨?_, ?_, ?_, ?_, ?_⟩, ?_, (K8.setCell (.inr (Nat.le_refl _)) _).setCell (.inr (Nat.le_refl _)) _⟩
          · rw [Below.heap_setCell _ _ _ _ (by simp; omega), Below.heap_setCell _ _ _ _ (by simp; omega), hc7, hput, hcn]
          · rw [hput]
            exact raw_row hkc (List.length_set ..).symm (raw_other (raw_other hr8 hkw _ _) hkw _ _)
          · rw [hput]
            refine le_ff (by simp; exact Nat.le_of_lt hPl) fun j hj hlt => ?_
            rw [List.getElem_set_ne (by omega)]
            exact HFi.out.before j (by simpa using hj) hlt
          · rw [hput]
            have := HFi.out.len
            simp; omega
          · rw [hput]
            intro d hd
            rcases List.mem_or_eq_of_mem_set hd with h | h
            · rcases HFi.out.els d h with h | h
              · exact HE.out d h
              · exact ⟨_, by rw [h]⟩
            · exact ⟨x, by rw [h]⟩
          · rcases HFR.out with h | h
            · exact .inl h.symm
            · exact .inr ⟨k, rfl, Nat.le_of_lt h⟩
        have HF := hidp hfin
        clear hfin hW8 hh hr7 hc7 ha7 K7 K8 hr8 x0 x2 hput H7 HG HN HFR HFi
        go_wp2_with fail
        rw [← heq, hgn]
        exact bodyPost_ret (v := .agg #[.int .i64 p, .int .i64 ((G : Int) + 1)]) (by simp [results, Try.results8, go_sem, y0, y1]) rfl ⟨by simp, HF.out⟩

theorem info76 : (Try.prog.info? 76).map (fun i => (i.zero, i.size, i.bytes)) = some (some (.agg #[.int .i64 0, .bool false, .string ⟨#[]⟩]), 3, 32) := by kernel_rfl
theorem SL_s.up {w : World} {c : Nat} {v : Value} {g : Option Nat} {L : List Cl} {low : Nat} (h : SL_s w c v g L low) (hl : low + 1 ≤ ff L) (n : Nat) : SL_s ((w.drewN n).setCell ⟨c, 2, none⟩ (.int .i64 ((low : Int) + 1))) c v g L (low + 1) := by
  have hh : (w.drewN n).heap = w.heap := rfl
  refine ⟨?_, ?_, hl, h.len, h.els⟩
  · rw [setCell_block (by rw [hh]; exact h.cell)]
    simp
  · cases h.row with
    | none_ he => exact .none_ he
    | row k cap cur h1 h2 h3 h4 h5 h6 => exact .row k cap cur h1 ((Below.heap_setCell _ _ _ _ (by simpa using h1)).trans h2) h3 h4 h5 h6

set_option maxHeartbeats 4000000 in
theorem put_s {w : World} {c : Nat} {v : Value} {g : Option Nat} {L : List Cl} {low : Nat} (h : SL_s w c v g L low) (hgen : ∀ d ∈ L, d.gen ≤ 1000000) (hlen : L.length + 1 ≤ 1000000) (x : ByteArray) :
    Calls Try.prog 24 #[.pointer (some ⟨c, 0, none⟩), Value.string x] w fun e w' => e = .returned (.agg #[.int .i64 (ff L), .int .i64 (putG L)]) ∧ Did_s w c g (putL L (.string ⟨#[]⟩) (Value.string x)) w' := by
  obtain ⟨i0, hi, hz0, hz1, hz2⟩ := info_parts info76
  have hcs := (Array.getElem?_eq_some_iff.1 h.cell).1
  have K0 := (Keeps.refl (fun j => j = c) w).alloc (.cells #[.int .i64 0, .int .i64 0] 27)
  have h1 := h.keep ((Keeps.refl (fun _ => False) w).alloc (.cells #[.int .i64 0, .int .i64 0] 27)) (by simp) (by simp)
  have a0 : (w.alloc (.cells #[.int .i64 0, .int .i64 0] 27)).heap[w.heap.size]? = _ := heap_alloc_new w _
  have hgc := (row_owns h.row).2
  have HE := hidp h.els
  have hgw : g ≠ some w.heap.size := by
    cases h.row with
    | none_ _ => simp
    | row k cap cur p1 p2 => have := (Array.getElem?_eq_some_iff.1 p2).1; simp; omega
  obtain ⟨W1, hW1⟩ : ∃ W1, W1 = w.alloc (.cells #[.int .i64 0, .int .i64 0] 27) := ⟨_, rfl⟩
  rw [← hW1] at K0 h1 a0
  have HA := hidp a0
  have HK := hidp K0
  have hW1s : w.heap.size < W1.heap.size := by rw [hW1]; simp
  clear h a0 K0
  go_enter Try.func24, Try.ntmps24
  go_wp2_with fail
  rw [← hW1]
  clear hW1
  go_loopw [] (fun wr => ∃ lw, SL_s wr c v g L lw ∧ Keeps (fun j => j = c) W1 wr) (fun wr => ff L - lowOf wr c)
  case atStart => exact ⟨low, h1, Keeps.refl _ _⟩
  case round =>
    obtain ⟨lw, h2, K2⟩ := hrel
    clear h1
    have hle := h2.le
    have c0 : wr.cell? ⟨c, 0, none⟩ = some v := cells_at h2.cell 0
    have c2 : wr.cell? ⟨c, 2, none⟩ = some (.int .i64 lw) := cells_at h2.cell 2
    have f2 := free_at h2.cell 2
    have hff := ff_le L
    by_cases hlt : lw < ff L
    · obtain ⟨k, cap, rfl, rfl, hc1, hc2, r0, r1, r2⟩ := row_read h2.row (show lw < L.length by omega)
      rw [ff_before L lw (by omega) hlt] at r1
      have t1 : decide (lw < L.length) = true := by simp; omega
      have hw : IntKind.i64.wrap ((lw : Int) + 1) = lw + 1 := IntWalk.i64_in _ (by omega)
      have H2 := hidp h2
      have HK2 := hidp K2
      clear h2 K2 r0 r2
      go_wp2_with fail
      go_quiet (fail)
      go_wp2_with fail
      refine ⟨⟨lw + 1, H2.out.up (by omega) nq, (keeps_drewN HK2.out nq).setCell (.inl rfl) _⟩, ?_⟩
      have e1 : lowOf wr c = lw := by simp [lowOf, c2]
      have e2 : lowOf ((wr.drewN nq).setCell ⟨c, 2, none⟩ (.int .i64 ((lw : Int) + 1))) c = lw + 1 := by
        have := (H2.out.up (by omega) nq).cell
        unfold lowOf
        rw [cells_at this 2]
        simp
      rw [e1, e2]
      omega
    · obtain rfl : lw = ff L := by omega
      obtain ⟨p, hp⟩ : ∃ p, p = ff L := ⟨_, rfl⟩
      have hpl : p ≤ L.length := by omega
      have HP := hidp hp
      by_cases hpl2 : p < L.length
      · obtain ⟨k, cap, hgk, rfl, hkc, hraw⟩ := row_raw h2.row (show ff L < L.length by omega)
        have r1 : wr.cell? ⟨k, ff L * 3 + 1, none⟩ = some (.bool L[ff L].has) := (raw_cell hraw (by omega)).trans (flat_get L (ff L) (by omega)).2.1
        rw [ff_free L (by omega)] at r1
        rw [← hp] at h2 c2 r1
        have t1 : decide (p < L.length) = true := by simpa using hpl2
        have t2 : ((p : Int) == (L.length : Int)) = false := by simp; omega
        obtain ⟨P, HFi, HR⟩ : ∃ P, Hid (Fill L P p (.string ⟨#[]⟩) (Value.string x)) ∧ Hid (∀ n m, Ready 76 74 w c g P p (cnt L) k cap ((wr.drewN n).drewN m)) := by
          refine ⟨L, hidp (hp ▸ fill_in (by omega) _ _), hidp fun n m => Ready.drewN (Ready.drewN ⟨hraw, h2.cell, hkc, ?_, .inl hgk, (HK.out.mono (fun _ _ h => .inl h)).then_ (K2.mono (fun _ _ h => .inl h)) (fun _ _ h => h), (K2.block _ hW1s (by show ¬ w.heap.size = c; omega)).trans HA.out⟩ n) m⟩
          rintro rfl
          exact hgw hgk
        clear h2 K2 hle hff hp hlt hraw HK HA hgw hgk hgc
        go_wp2_with fail
        go_quiet (fail)
        obtain ⟨n1, hn1⟩ : ∃ n, n = nq := ⟨_, rfl⟩
        subst hn1
        go_wp2_with fail
        go_quiet (fail)
        go_wp2_with fail
        have HR := hidp (HR.out n1 nq)
        obtain ⟨W5, hW5⟩ : ∃ W5, W5 = (wr.drewN n1).drewN nq := ⟨_, rfl⟩
        rw [← hW5] at HR ⊢
        clear hW5 c0 c2 f2 r1 t1 t2
        have b0 := cells_at HR.out.cell 0
        have b2 := cells_at HR.out.cell 2
        simp only [List.getElem?_toArray, List.getElem?_cons_succ, List.getElem?_cons_zero] at b0 b2
        have hPl := HFi.out.lt
        go_quiet (fail)
        have HR := hidp (HR.out.drewN nq)
        obtain ⟨W6, hW6⟩ : ∃ W6, W6 = W5.drewN nq := ⟨_, rfl⟩
        rw [← hW6] at HR ⊢
        clear hW6 b0 b2
        obtain ⟨G, hG⟩ : ∃ G, G = P[p].gen := ⟨_, rfl⟩
        obtain ⟨n, hn⟩ : ∃ n, n = cnt L := ⟨_, rfl⟩
        rw [← hn] at HR
        have hkw := HR.out.kw
        have hkc := HR.out.kc
        obtain ⟨q1, q2, q3⟩ := flat_get P p hPl
        rw [← hG] at q1
        have r0 : W6.cell? ⟨k, p * 3, none⟩ = some (.int .i64 G) := (raw_cell HR.out.raw (by omega)).trans q1
        obtain ⟨hb, r1⟩ : ∃ hb, W6.cell? ⟨k, p * 3 + 1, none⟩ = some (.bool hb) := ⟨_, (raw_cell HR.out.raw (by omega)).trans q2⟩
        obtain ⟨xv, r2⟩ : ∃ xv, W6.cell? ⟨k, p * 3 + 2, none⟩ = some xv := ⟨_, (raw_cell HR.out.raw (by omega)).trans q3⟩
        have b1 := cells_at HR.out.cell 1
        have b2 := cells_at HR.out.cell 2
        have d1 := free_at HR.out.cell 1
        simp only [List.getElem?_toArray, List.getElem?_cons_succ, List.getElem?_cons_zero] at b1 b2
        have f0 := raw_free HR.out.raw (p * 3)
        have f1 := raw_free HR.out.raw (p * 3 + 1)
        have f2 := raw_free HR.out.raw (p * 3 + 2)
        have hGb : G ≤ 1000000 := by
          rw [hG]
          rcases HFi.out.els P[p] (List.getElem_mem hPl) with h | h
          · exact hgen _ h
          · rw [h]; exact Nat.zero_le _
        have hnb : n ≤ 1000000 := by have := cnt_le L; omega
        have hw1 : IntKind.i64.wrap ((G : Int) + 1) = G + 1 := IntWalk.i64_in _ (by omega)
        have hw2 : IntKind.i64.wrap ((n : Int) + 1) = n + 1 := IntWalk.i64_in _ (by omega)
        obtain ⟨W7, hW7⟩ : ∃ W7, W7 = (((W6.setCell ⟨k, p * 3, none⟩ (.int .i64 ((G : Int) + 1))).setCell ⟨k, p * 3 + 1, none⟩ (.bool true)).setCell ⟨k, p * 3 + 2, none⟩ (Value.string x)).setCell ⟨c, 1, none⟩ (.int .i64 ((n : Int) + 1)) := ⟨_, rfl⟩
        have hr7 : Raw 76 W7 k P.length cap (flat (P.set p ⟨G + 1, true, Value.string x⟩)) := by
          have := raw_other (raw_set (raw_set (raw_set HR.out.raw (p * 3) (.int .i64 ((G : Int) + 1))) (p * 3 + 1) (.bool true)) (p * 3 + 2) (Value.string x)) hkc 1 (.int .i64 ((n : Int) + 1))
          rw [← hW7, show (G : Int) + 1 = ((G + 1 : Nat) : Int) by omega, flat_set P p hPl] at this
          exact this
        have hc7 : W7.heap[c]? = some (.cells #[.slice (some ⟨k, 0, none⟩) P.length cap, .int .i64 ((n : Int) + 1), .int .i64 p] 74 (0, 0)) := by
          rw [hW7, setCell_block (by rw [Below.heap_setCell _ _ _ _ (by simpa using (Ne.symm hkc)), Below.heap_setCell _ _ _ _ (by simpa using (Ne.symm hkc)), Below.heap_setCell _ _ _ _ (by simpa using (Ne.symm hkc))]; exact HR.out.cell)]
          simp
        have ha7 : W7.heap[w.heap.size]? = some (.cells #[.int .i64 0, .int .i64 0] 27 (0, 0)) := by
          rw [hW7, Below.heap_setCell _ _ _ _ (by simp; omega), Below.heap_setCell _ _ _ _ (by simp; omega), Below.heap_setCell _ _ _ _ (by simp; omega), Below.heap_setCell _ _ _ _ (by simp; omega)]; exact HR.out.res
        have hSk : (k = c ∨ some k = g) ∨ w.heap.size ≤ k := by
          rcases HR.out.from_ with h | h
          · exact .inl (.inr h.symm)
          · exact .inr (Nat.le_of_lt h)
        have K7 : Keeps (fun j => j = c ∨ some j = g) w W7 := hW7 ▸ (((HR.out.keeps.setCell hSk _).setCell hSk _).setCell hSk _).setCell (.inl (.inl rfl)) _
        have H7 := hidp (And.intro hr7 (And.intro hc7 (And.intro ha7 K7)))
        have HW := hidp hW7
        have HG := hidp hG
        have HN := hidp hn
        have HPl := hidp hPl
        have hfr := HR.out.from_
        have HFR := hidp hfr
        clear hr7 hc7 ha7 K7 hW7 hSk hG hn q1 q2 q3 hfr HR
        go_wp2_with fail
        rw [← HW.out]
        obtain ⟨hr7, hc7, ha7, K7⟩ := H7.out
        have x2 := cells_at hc7 2
        simp only [List.getElem?_toArray, List.getElem?_cons_succ, List.getElem?_cons_zero] at x2
        have x0 : W7.cell? ⟨k, p * 3, none⟩ = some (.int .i64 ((G : Int) + 1)) := by
          rw [raw_cell hr7 (by have := HPl.out; omega), (flat_get (P.set p ⟨G + 1, true, Value.string x⟩) p (by simpa using HPl.out)).1]
          simp
        clear hr7 hc7 ha7 K7 f0 f1 f2 r0 r1 r2 b1 b2 d1 hw1 hw2 HW
        go_still_tail 9, (by kernel_rfl)
        change wpList _ _ _ _ _ W7.drew
        obtain ⟨W8, hW8⟩ : ∃ W8, W8 = W7.drew := ⟨_, rfl⟩
        rw [← hW8]
        have hh : W8.heap = W7.heap := by rw [hW8]; rfl
        obtain ⟨hr7, hc7, ha7, K7⟩ := H7.out
        have K8 := K7.drew
        rw [← hW8] at K8
        rw [← hh] at hc7 ha7
        have hr8 : Raw 76 W8 k P.length cap (flat (P.set p ⟨G + 1, true, Value.string x⟩)) := by
          obtain ⟨cur, h2, h3⟩ := hr7
          exact ⟨cur, by rw [hh]; exact h2, h3⟩
        have y0 := cells_at ha7 0
        have y1 := cells_at ha7 1
        have g0 := free_at ha7 0
        have g1 := free_at ha7 1
        simp only [List.getElem?_toArray, List.getElem?_cons_succ, List.getElem?_cons_zero] at y0 y1
        have hput := HFi.out.put
        have hgn := HFi.out.gen
        rw [← HG.out] at hput hgn
        have heq := HFi.out.eq
        have hfin : Did_s w c g (putL L (.string ⟨#[]⟩) (Value.string x)) ((W8.setCell ⟨w.heap.size, 0, none⟩ (.int .i64 p)).setCell ⟨w.heap.size, 1, none⟩ (.int .i64 ((G : Int) + 1))) := by
          have hcn : ((n : Int) + 1) = cnt (P.set p ⟨G + 1, true, Value.string x⟩) := by
            have := cnt_set P p hPl ⟨G + 1, true, Value.string x⟩
            simp [HFi.out.free] at this
            rw [this, HFi.out.cnt, ← HN.out]
            simp
          refine ⟨.slice (some ⟨k, 0, none⟩) P.length cap, some k, p, ⟨?_, ?_, ?_, ?_, ?_⟩, ?_, (K8.setCell (.inr (Nat.le_refl _)) _).setCell (.inr (Nat.le_refl _)) _⟩
          · rw [Below.heap_setCell _ _ _ _ (by simp; omega), Below.heap_setCell _ _ _ _ (by simp; omega), hc7, hput, hcn]
          · rw [hput]
            exact raw_row hkc (List.length_set ..).symm (raw_other (raw_other hr8 hkw _ _) hkw _ _)
          · rw [hput]
            refine le_ff (by simp; exact Nat.le_of_lt hPl) fun j hj hlt => ?_
            rw [List.getElem_set_ne (by omega)]
            exact HFi.out.before j (by simpa using hj) hlt
          · rw [hput]
            have := HFi.out.len
            simp; omega
          · rw [hput]
            intro d hd
            rcases List.mem_or_eq_of_mem_set hd with h | h
            · rcases HFi.out.els d h with h | h
              · exact HE.out d h
              · exact ⟨_, by rw [h]⟩
            · exact ⟨x, by rw [h]⟩
          · rcases HFR.out with h | h
            · exact .inl h.symm
            · exact .inr ⟨k, rfl, Nat.le_of_lt h⟩
        have HF := hidp hfin
        clear hfin hW8 hh hr7 hc7 ha7 K7 K8 hr8 x0 x2 hput H7 HG HN HFR HFi
        go_wp2_with fail
        rw [← heq, hgn]
        exact bodyPost_ret (v := .agg #[.int .i64 p, .int .i64 ((G : Int) + 1)]) (by simp [results, Try.results24, go_sem, y0, y1]) rfl ⟨by simp, HF.out⟩
      · obtain ⟨ao, cp, rfl⟩ := row_len h2.row
        have hpe : p = L.length := by omega
        rw [← hp] at h2 c2
        have t1 : decide (p < L.length) = false := by simp; omega
        have t2 : ((p : Int) == (L.length : Int)) = true := by simp; omega
        obtain ⟨hown0, hob⟩ := row_owns h2.row
        have hown : wr.ownsRow 0 76 3 (.slice ao L.length cp) L.length (flat L) ∧ Keeps (fun j => j = c ∨ some j = g) w wr ∧ wr.heap[c]? = some (.cells #[.slice ao L.length cp, .int .i64 (cnt L), .int .i64 p] 74 (0, 0)) ∧ wr.heap[w.heap.size]? = some (.cells #[.int .i64 0, .int .i64 0] 27 (0, 0)) :=
          ⟨hown0, (HK.out.mono (fun _ _ h => .inl h)).then_ (K2.mono (fun _ _ h => .inl h)) (fun _ _ h => h), h2.cell, (K2.block _ hW1s (by show ¬ w.heap.size = c; omega)).trans HA.out⟩
        have hff' : ff L = L.length := by omega
        have HFi := hidp (hp ▸ fill_new hff' (.string ⟨#[]⟩) (Value.string x))
        have HOB := hidp hob
        have HO := hidp hown
        clear h2 K2 hle hff hp hlt HK HA hgc hown0 hown hob hff' hpe
        go_wp2_with fail
        go_quiet (fail)
        obtain ⟨n1, hn1⟩ : ∃ n, n = nq := ⟨_, rfl⟩
        subst hn1
        go_wp2_with fail
        go_quiet (fail)
        obtain ⟨hown, hK, hcell, hres⟩ : ((wr.drewN n1).drewN nq).ownsRow 0 76 3 (.slice ao L.length cp) L.length (flat L) ∧ Keeps (fun j => j = c ∨ some j = g) w ((wr.drewN n1).drewN nq) ∧ ((wr.drewN n1).drewN nq).heap[c]? = some (.cells #[.slice ao L.length cp, .int .i64 (cnt L), .int .i64 p] 74 (0, 0)) ∧ ((wr.drewN n1).drewN nq).heap[w.heap.size]? = some (.cells #[.int .i64 0, .int .i64 0] 27 (0, 0)) :=
          ⟨HO.out.1, keeps_drewN (keeps_drewN HO.out.2.1 _) _, HO.out.2.2⟩
        obtain ⟨W4, hW4⟩ : ∃ W4, W4 = (wr.drewN n1).drewN nq := ⟨_, rfl⟩
        rw [← hW4] at hown hK hcell hres ⊢
        clear hW4 c0 c2 f2
        have c0 : W4.cell? ⟨c, 0, none⟩ = some (.slice ao L.length cp) := cells_at hcell 0
        have HC := hidp hcell
        have HRs := hidp hres
        have HK4 := hidp hK
        have hks := hK.size
        have hcs4 : c < W4.heap.size := by omega
        clear hcell hres hK HO
        go_wp2_with (at_builtin; refine wpList_append_own_at _ rfl _ _ 72 rfl 0 76 i0 (.agg #[.int .i64 0, .bool false, .string ⟨#[]⟩]) 3 32 Try.underlying72 hi hz0 hz1 hz2 rfl (by decide) _ _ _ rfl (hown.alloc _) ⟨W4.heap.size, 0, none⟩ 1 1 [.int .i64 0, .bool false, .string ⟨#[]⟩] rfl rfl (cell_three_new _ _ _ _ _) ?c2 ?c3 ?c4 ?c5 ?_)
        case c2 => intro u hu; simp at hu; rcases hu with rfl | rfl | rfl <;> rfl
        case c3 => unfold maxLen; omega
        case c4 => omega
        case c5 => simp
        intro v' w7 hown7 hgr7 hnil7 hloc7
        obtain ⟨k, cap, rfl, hk1, hraw⟩ := owns_raw (by omega) hown7
        obtain ⟨ho1, ho2⟩ := HOB.out
        have K7 : Keeps (fun j => j = c ∨ some j = g) w w7 := (HK4.out.alloc _).grown hgr7 (fun j hj => .inl (.inr (hj.symm.trans ho1)))
        have K8 : Keeps (fun j => some j = g) W4 w7 := ((Keeps.refl _ _).alloc _).grown hgr7 (fun j hj => .inl (hj.symm.trans ho1))
        have hc7 := (K8.block c hcs4 (fun e => ho2 e.symm)).trans HC.out
        have hr7 := (K8.block w.heap.size (by have := (Array.getElem?_eq_some_iff.1 HRs.out).1; exact this) (fun e => hgw e.symm)).trans HRs.out
        have hcell0 := cells_at hc7 0
        have hfree0 := free_at hc7 0
        simp only [List.getElem?_toArray, List.getElem?_cons_zero] at hcell0
        have hkk : g = some k ∨ W4.heap.size < k := by
          rcases hloc7 with h | h
          · exact .inl (by rw [← ho1, ← h, hk1])
          · refine .inr ?_
            rw [hk1] at h
            simp at h; omega
        have hkc : k ≠ c := by
          rintro rfl
          rcases hkk with h | h
          · exact ho2 h
          · omega
        have hR : Ready 76 74 w c g (L ++ [⟨0, false, .string ⟨#[]⟩⟩]) p (cnt L) k cap (w7.setCell ⟨c, 0, none⟩ (.slice (some ⟨k, 0, none⟩) (L.length + 1) cap)) := by
          have hsz := (Array.getElem?_eq_some_iff.1 HRs.out).1
          refine ⟨?_, ?_, hkc, ?_, ?_, K7.setCell (.inl (.inl rfl)) _, ?_⟩
          · have := raw_other hraw hkc 0 (.slice (some ⟨k, 0, none⟩) (L.length + 1) cap)
            rw [flat_snoc]
            simpa using this
          · rw [setCell_block hc7]
            simp
          · rintro rfl
            rcases hkk with h | h
            · exact hgw h
            · omega
          · rcases hkk with h | h
            · exact .inl h
            · exact .inr (by omega)
          · rw [Below.heap_setCell _ _ _ _ (by simp; omega)]; exact hr7
        obtain ⟨P, HFi, HR⟩ : ∃ P, Hid (Fill L P p (.string ⟨#[]⟩) (Value.string x)) ∧ Hid (Ready 76 74 w c g P p (cnt L) k cap (w7.setCell ⟨c, 0, none⟩ (.slice (some ⟨k, 0, none⟩) (L.length + 1) cap))) := ⟨_, HFi, hidp hR⟩
        clear hR hkc hkk hr7 hc7 K8 K7 ho1 ho2 hk1 hraw hloc7 hnil7 hgr7 hown7 hown HOB HC HRs HK4 hgw
        go_wp2_with fail
        obtain ⟨W5, hW5⟩ : ∃ W5, W5 = w7.setCell ⟨c, 0, none⟩ (.slice (some ⟨k, 0, none⟩) (L.length + 1) cap) := ⟨_, rfl⟩
        rw [← hW5] at HR ⊢
        clear hW5 c0 t1 t2 hcell0 hfree0
        have b0 := cells_at HR.out.cell 0
        have b2 := cells_at HR.out.cell 2
        simp only [List.getElem?_toArray, List.getElem?_cons_succ, List.getElem?_cons_zero] at b0 b2
        have hPl := HFi.out.lt
        go_quiet (fail)
        have HR := hidp (HR.out.drewN nq)
        obtain ⟨W6, hW6⟩ : ∃ W6, W6 = W5.drewN nq := ⟨_, rfl⟩
        rw [← hW6] at HR ⊢
        clear hW6 b0 b2
        obtain ⟨G, hG⟩ : ∃ G, G = P[p].gen := ⟨_, rfl⟩
        obtain ⟨n, hn⟩ : ∃ n, n = cnt L := ⟨_, rfl⟩
        rw [← hn] at HR
        have hkw := HR.out.kw
        have hkc := HR.out.kc
        obtain ⟨q1, q2, q3⟩ := flat_get P p hPl
        rw [← hG] at q1
        have r0 : W6.cell? ⟨k, p * 3, none⟩ = some (.int .i64 G) := (raw_cell HR.out.raw (by omega)).trans q1
        obtain ⟨hb, r1⟩ : ∃ hb, W6.cell? ⟨k, p * 3 + 1, none⟩ = some (.bool hb) := ⟨_, (raw_cell HR.out.raw (by omega)).trans q2⟩
        obtain ⟨xv, r2⟩ : ∃ xv, W6.cell? ⟨k, p * 3 + 2, none⟩ = some xv := ⟨_, (raw_cell HR.out.raw (by omega)).trans q3⟩
        have b1 := cells_at HR.out.cell 1
        have b2 := cells_at HR.out.cell 2
        have d1 := free_at HR.out.cell 1
        simp only [List.getElem?_toArray, List.getElem?_cons_succ, List.getElem?_cons_zero] at b1 b2
        have f0 := raw_free HR.out.raw (p * 3)
        have f1 := raw_free HR.out.raw (p * 3 + 1)
        have f2 := raw_free HR.out.raw (p * 3 + 2)
        have hGb : G ≤ 1000000 := by
          rw [hG]
          rcases HFi.out.els P[p] (List.getElem_mem hPl) with h | h
          · exact hgen _ h
          · rw [h]; exact Nat.zero_le _
        have hnb : n ≤ 1000000 := by have := cnt_le L; omega
        have hw1 : IntKind.i64.wrap ((G : Int) + 1) = G + 1 := IntWalk.i64_in _ (by omega)
        have hw2 : IntKind.i64.wrap ((n : Int) + 1) = n + 1 := IntWalk.i64_in _ (by omega)
        obtain ⟨W7, hW7⟩ : ∃ W7, W7 = (((W6.setCell ⟨k, p * 3, none⟩ (.int .i64 ((G : Int) + 1))).setCell ⟨k, p * 3 + 1, none⟩ (.bool true)).setCell ⟨k, p * 3 + 2, none⟩ (Value.string x)).setCell ⟨c, 1, none⟩ (.int .i64 ((n : Int) + 1)) := ⟨_, rfl⟩
        have hr7 : Raw 76 W7 k P.length cap (flat (P.set p ⟨G + 1, true, Value.string x⟩)) := by
          have := raw_other (raw_set (raw_set (raw_set HR.out.raw (p * 3) (.int .i64 ((G : Int) + 1))) (p * 3 + 1) (.bool true)) (p * 3 + 2) (Value.string x)) hkc 1 (.int .i64 ((n : Int) + 1))
          rw [← hW7, show (G : Int) + 1 = ((G + 1 : Nat) : Int) by omega, flat_set P p hPl] at this
          exact this
        have hc7 : W7.heap[c]? = some (.cells #[.slice (some ⟨k, 0, none⟩) P.length cap, .int .i64 ((n : Int) + 1), .int .i64 p] 74 (0, 0)) := by
          rw [hW7, setCell_block (by rw [Below.heap_setCell _ _ _ _ (by simpa using (Ne.symm hkc)), Below.heap_setCell _ _ _ _ (by simpa using (Ne.symm hkc)), Below.heap_setCell _ _ _ _ (by simpa using (Ne.symm hkc))]; exact HR.out.cell)]
          simp
        have ha7 : W7.heap[w.heap.size]? = some (.cells #[.int .i64 0, .int .i64 0] 27 (0, 0)) := by
          rw [hW7, Below.heap_setCell _ _ _ _ (by simp; omega), Below.heap_setCell _ _ _ _ (by simp; omega), Below.heap_setCell _ _ _ _ (by simp; omega), Below.heap_setCell _ _ _ _ (by simp; omega)]; exact HR.out.res
        have hSk : (k = c ∨ some k = g) ∨ w.heap.size ≤ k := by
          rcases HR.out.from_ with h | h
          · exact .inl (.inr h.symm)
          · exact .inr (Nat.le_of_lt h)
        have K7 : Keeps (fun j => j = c ∨ some j = g) w W7 := hW7 ▸ (((HR.out.keeps.setCell hSk _).setCell hSk _).setCell hSk _).setCell (.inl (.inl rfl)) _
        have H7 := hidp (And.intro hr7 (And.intro hc7 (And.intro ha7 K7)))
        have HW := hidp hW7
        have HG := hidp hG
        have HN := hidp hn
        have HPl := hidp hPl
        have hfr := HR.out.from_
        have HFR := hidp hfr
        clear hr7 hc7 ha7 K7 hW7 hSk hG hn q1 q2 q3 hfr HR
        go_wp2_with fail
        rw [← HW.out]
        obtain ⟨hr7, hc7, ha7, K7⟩ := H7.out
        have x2 := cells_at hc7 2
        simp only [List.getElem?_toArray, List.getElem?_cons_succ, List.getElem?_cons_zero] at x2
        have x0 : W7.cell? ⟨k, p * 3, none⟩ = some (.int .i64 ((G : Int) + 1)) := by
          rw [raw_cell hr7 (by have := HPl.out; omega), (flat_get (P.set p ⟨G + 1, true, Value.string x⟩) p (by simpa using HPl.out)).1]
          simp
        clear hr7 hc7 ha7 K7 f0 f1 f2 r0 r1 r2 b1 b2 d1 hw1 hw2 HW
        go_still_tail 9, (by kernel_rfl)
        change wpList _ _ _ _ _ W7.drew
        obtain ⟨W8, hW8⟩ : ∃ W8, W8 = W7.drew := ⟨_, rfl⟩
        rw [← hW8]
        have hh : W8.heap = W7.heap := by rw [hW8]; rfl
        obtain ⟨hr7, hc7, ha7, K7⟩ := H7.out
        have K8 := K7.drew
        rw [← hW8] at K8
        rw [← hh] at hc7 ha7
        have hr8 : Raw 76 W8 k P.length cap (flat (P.set p ⟨G + 1, true, Value.string x⟩)) := by
          obtain ⟨cur, h2, h3⟩ := hr7
          exact ⟨cur, by rw [hh]; exact h2, h3⟩
        have y0 := cells_at ha7 0
        have y1 := cells_at ha7 1
        have g0 := free_at ha7 0
        have g1 := free_at ha7 1
        simp only [List.getElem?_toArray, List.getElem?_cons_succ, List.getElem?_cons_zero] at y0 y1
        have hput := HFi.out.put
        have hgn := HFi.out.gen
        rw [← HG.out] at hput hgn
        have heq := HFi.out.eq
        have hfin : Did_s w c g (putL L (.string ⟨#[]⟩) (Value.string x)) ((W8.setCell ⟨w.heap.size, 0, none⟩ (.int .i64 p)).setCell ⟨w.heap.size, 1, none⟩ (.int .i64 ((G : Int) + 1))) := by
          have hcn : ((n : Int) + 1) = cnt (P.set p ⟨G + 1, true, Value.string x⟩) := by
            have := cnt_set P p hPl ⟨G + 1, true, Value.string x⟩
            simp [HFi.out.free] at this
            rw [this, HFi.out.cnt, ← HN.out]
            simp
          refine ⟨.slice (some ⟨k, 0, none⟩) P.length cap, some k, p, ⟨?_, ?_, ?_, ?_, ?_⟩, ?_, (K8.setCell (.inr (Nat.le_refl _)) _).setCell (.inr (Nat.le_refl _)) _⟩
          · rw [Below.heap_setCell _ _ _ _ (by simp; omega), Below.heap_setCell _ _ _ _ (by simp; omega), hc7, hput, hcn]
          · rw [hput]
            exact raw_row hkc (List.length_set ..).symm (raw_other (raw_other hr8 hkw _ _) hkw _ _)
          · rw [hput]
            refine le_ff (by simp; exact Nat.le_of_lt hPl) fun j hj hlt => ?_
            rw [List.getElem_set_ne (by omega)]
            exact HFi.out.before j (by simpa using hj) hlt
          · rw [hput]
            have := HFi.out.len
            simp; omega
          · rw [hput]
            intro d hd
            rcases List.mem_or_eq_of_mem_set hd with h | h
            · rcases HFi.out.els d h with h | h
              · exact HE.out d h
              · exact ⟨_, by rw [h]⟩
            · exact ⟨x, by rw [h]⟩
          · rcases HFR.out with h | h
            · exact .inl h.symm
            · exact .inr ⟨k, rfl, Nat.le_of_lt h⟩
        have HF := hidp hfin
        clear hfin hW8 hh hr7 hc7 ha7 K7 K8 hr8 x0 x2 hput H7 HG HN HFR HFi
        go_wp2_with fail
        rw [← heq, hgn]
        exact bodyPost_ret (v := .agg #[.int .i64 p, .int .i64 ((G : Int) + 1)]) (by simp [results, Try.results24, go_sem, y0, y1]) rfl ⟨by simp, HF.out⟩
end Go.Proofs.Ytnhcejbgkhhijaa
