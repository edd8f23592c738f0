/- The tables keyed by edges: Parked and Meet. -/
import Derived.Test.YtkiaboaeflbmoaaTab
import Derived.BigQuiet
import Derived.Deep.QuietTactic
import Derived.StillTailTactics
namespace Go.Proofs.Ytkiaboaeflbmoaa
open Go.RowKit Go.Pairs

theorem keeps_drewN {S : Nat → Prop} {a w : World} (h : Keeps S a w) (n : Nat) : Keeps S a (w.drewN n) := ⟨h.os, h.tape, h.output, h.size, h.block⟩

theorem parked_e {a b m : Nat} {L : List (Value × Value)} {w : World} (T : Tab ok_e w a b m L) (x y : Int) :
    Calls Try.prog 22 #[.pointer (some ⟨a, 0, none⟩), .agg #[.int .i64 x, .int .i64 y]] w fun e w' => e = .returned (.tuple #[(pLook veq (.agg #[.int .i64 x, .int .i64 y]) L).getD (.string ByteArray.empty), .bool (pLook veq (.agg #[.int .i64 x, .int .i64 y]) L).isSome]) ∧ Keeps (fun _ => False) w w' := by
  have T1 : Tab ok_e (w.alloc (.cells #[.int .i64 x, .int .i64 y] 23)) a b m L := T.keep ((Keeps.refl (fun _ => False) w).alloc _) (by simp) (by simp)
  obtain ⟨c0, c1, f1, hH, hL⟩ := T1
  have hl := fun n => run_lookup (w := (w.alloc (.cells #[.int .i64 x, .int .i64 y] 23)).drewN n) key_e hH hL ⟨x, y, rfl⟩ Try.underlying62 (zero_e _) true
  simp only [if_true] at hl
  generalize (pLook veq (.agg #[.int .i64 x, .int .i64 y]) L).getD (.string ByteArray.empty) = u at *
  generalize (pLook veq (.agg #[.int .i64 x, .int .i64 y]) L).isSome = v at *
  go_enter Try.func22, Try.ntmps22
  go_wp2
  go_quiet (fail)
  go_wp2
  go_ret2
  exact ⟨rfl, keeps_drewN ((Keeps.refl _ _).alloc _) _⟩

theorem two_cells (w : World) (u v : Value) (t : TypeId) (n : Nat) : ((w.alloc (.cells #[u, v] t)).drewN n).cell? ⟨w.heap.size, 0, none⟩ = some u ∧ ((w.alloc (.cells #[u, v] t)).drewN n).cell? ⟨w.heap.size, 1, none⟩ = some v := by
  constructor <;> simp

theorem meet_e {a b m : Nat} {L : List (Value × Value)} {w : World} (T : Tab ok_e w a b m L) (hm : m < 100000) (x y : Int) (v : Value) :
    Calls Try.prog 21 #[.pointer (some ⟨a, 0, none⟩), .agg #[.int .i64 x, .int .i64 y], v] w (Met ok_e (.string ByteArray.empty) a b m L (.agg #[.int .i64 x, .int .i64 y]) v w) := by
  have hk : ok_e (.agg #[.int .i64 x, .int .i64 y]) := ⟨x, y, rfl⟩
  have hab := ne_of_cell T.c0 T.has
  have T1 : Tab ok_e (w.alloc (.cells #[.int .i64 x, .int .i64 y] 23)) a b m L := T.keep ((Keeps.refl (fun _ => False) w).alloc _) (by simp) (by simp)
  obtain ⟨c0, c1, f1, hH, hL⟩ := T1
  have hl := fun n => run_lookup (w := (w.alloc (.cells #[.int .i64 x, .int .i64 y] 23)).drewN n) key_e hH hL ⟨x, y, rfl⟩ Try.underlying62 (zero_e _) true
  cases hx : pLook veq (.agg #[.int .i64 x, .int .i64 y]) L with
  | some x0 =>
    unfold Met; simp only [hx]
    rw [hx] at hl
    simp only [if_true, Option.getD_some, Option.isSome_some] at hl
    have HX := hidp hx
    clear hx
    go_enter Try.func21, Try.ntmps21
    go_wp2
    go_quiet (fail)
    go_wp2
    obtain ⟨W2, hW2⟩ : ∃ W2, W2 = (w.alloc (.cells #[.int .i64 x, .int .i64 y] 23)).drewN nq := ⟨_, rfl⟩
    rw [← hW2]
    have K2 : Keeps (fun _ => False) w W2 := hW2 ▸ keeps_drewN ((Keeps.refl _ _).alloc _) _
    obtain ⟨e0, e1⟩ := two_cells w (.int .i64 x) (.int .i64 y) 23 nq
    rw [← hW2] at e0 e1
    clear hW2 hl c0 c1 f1 hH hL nq
    obtain ⟨c0, c1, f1, hH, hL⟩ := T.keep K2 (by simp) (by simp)
    clear f1 c1 hL hH
    go_still_tail 5, (by kernel_rfl)
    change wpList _ _ _ _ _ W2.drew
    obtain ⟨W3, hW3⟩ : ∃ W3, W3 = W2.drew := ⟨_, rfl⟩
    rw [← hW3]
    have K3 : Keeps (fun _ => False) w W3 := hW3 ▸ K2.drew
    clear hW3 c0 e0 e1
    obtain ⟨c0, c1, f1, hH, hL⟩ := T.keep K3 (by simp) (by simp)
    obtain ⟨w1, hdel, hH1, hg1⟩ := run_delete key_e hH hL hk Try.underlying62 #[62, 23] rfl 0
    have hk1 : Keeps (fun i => i = b) W3 w1 := (Keeps.refl _ _).grown hg1 (fun k e => .inl (by simpa using e.symm))
    have d0 : w1.cell? ⟨a, 0, none⟩ = some (.map (some b)) := hk1.cell c0 (by simpa using hab)
    have d1 : w1.cell? ⟨a, 1, none⟩ = some (.int .i64 m) := hk1.cell c1 (by simpa using hab)
    have g1 : w1.frozen? ⟨a, 1, none⟩ = false := (hk1.frozen (lt_of_cell c1) (by simpa using hab)).trans f1
    have hfin : Tab ok_e (w1.setCell ⟨a, 1, none⟩ (.int .i64 (m + 1))) a b (m + 1) (pStrike veq (.agg #[.int .i64 x, .int .i64 y]) L) :=
      ⟨by rw [World.cell?_setCell_other _ _ _ _ (by simp)]; exact d0, by rw [World.cell?_setCell_same' _ _ _ (by rw [d1]; rfl)]; rfl, by rw [World.frozen?_setCell]; exact g1,
        hH1.same (Below.heap_setCell _ _ _ _ (fun e => hab e.symm)), keys_strike hL _⟩
    have hkk : Keeps (fun i => i = a ∨ i = b) w (w1.setCell ⟨a, 1, none⟩ (.int .i64 (m + 1))) := ((K3.mono (fun i _ hi => hi.elim)).trans (hk1.mono (fun i _ hi => .inr hi))).setCell (.inl (.inl rfl)) _
    clear hk1 hH hH1 hg1 hk hL hab K2 K3 T c0 c1 f1
    have Hf := hidp hfin
    have Hk := hidp hkk
    clear hfin hkk
    go_wp2
    go_ret2
    exact ⟨rfl, Hf.out, Hk.out⟩
  | none =>
    unfold Met; simp only [hx]
    rw [hx] at hl
    simp only [if_true, Option.getD_none, Option.isSome_none] at hl
    have HX := hidp hx
    clear hx
    go_enter Try.func21, Try.ntmps21
    go_wp2
    go_quiet (fail)
    go_wp2
    obtain ⟨W2, hW2⟩ : ∃ W2, W2 = (w.alloc (.cells #[.int .i64 x, .int .i64 y] 23)).drewN nq := ⟨_, rfl⟩
    rw [← hW2]
    have K2 : Keeps (fun _ => False) w W2 := hW2 ▸ keeps_drewN ((Keeps.refl _ _).alloc _) _
    obtain ⟨e0, e1⟩ := two_cells w (.int .i64 x) (.int .i64 y) 23 nq
    rw [← hW2] at e0 e1
    clear hW2 hl c0 c1 f1 hH hL nq
    obtain ⟨c0, c1, f1, hH, hL⟩ := T.keep K2 (by simp) (by simp)
    clear f1 c1 hL hH
    go_still_tail 6, (by kernel_rfl)
    change wpList _ _ _ _ _ W2.drew
    obtain ⟨W3, hW3⟩ : ∃ W3, W3 = W2.drew := ⟨_, rfl⟩
    rw [← hW3]
    have K3 : Keeps (fun _ => False) w W3 := hW3 ▸ K2.drew
    clear hW3 c0 e0 e1
    obtain ⟨c0, c1, f1, hH, hL⟩ := T.keep K3 (by simp) (by simp)
    obtain ⟨w1, hup, hH1, hg1⟩ := run_update_new key_e hH hL hk Try.underlying62 v HX.out
    have hk1 : Keeps (fun i => i = b) W3 w1 := (Keeps.refl _ _).grown hg1 (fun k e => .inl (by simpa using e.symm))
    have hfin : Tab ok_e w1 a b m (L ++ [(.agg #[.int .i64 x, .int .i64 y], v)]) :=
      ⟨hk1.cell c0 (by simpa using hab), hk1.cell c1 (by simpa using hab), (hk1.frozen (lt_of_cell c1) (by simpa using hab)).trans f1, hH1, keys_snoc hL hk⟩
    have hkk : Keeps (fun i => i = a ∨ i = b) w w1 := (K3.mono (fun i _ hi => hi.elim)).trans (hk1.mono (fun i _ hi => .inr hi))
    clear hk1 hH hH1 hg1 hk hL hab K2 K3 T c0 c1 f1
    have Hf := hidp hfin
    have Hk := hidp hkk
    clear hfin hkk
    go_wp2
    go_ret2
    exact ⟨rfl, Hf.out, Hk.out⟩
end Go.Proofs.Ytkiaboaeflbmoaa
